import Derived.Test.YteekonojmpihlaaDoorQNmSp
import Derived.Test.YteekonojmpihlaaDoorQRetCell
/- Package names: named, the spread of what it stands for at hand. Condition: the sentinels read as laid. -/
namespace Go.Proofs.YteekonojmpihlaaDoor
namespace Kt
end Kt
namespace St
end St
namespace Sp
end Sp
namespace Bk
end Bk
namespace Tr
end Tr
open Go Go.RowKit Kt St Sp Bk Tr
namespace Bo
/-- What a name's spread is. -/
def nres (B : Bks) (f : Nat) (path : List (List UInt8)) (lv many : Nat) (s : List UInt8) : Int × Nat × Nd :=
  match lkS B s with
  | none => (15, many, nil0)
  | some m => if s ∈ path then (8, many, nil0) else spr B f (path ++ [s]) lv many m
/-- Where a spread may begin. -/
structure SpC (w0 : World) (B : Bks) (sp p f : Nat) (path : List (List UInt8)) (lv many : Nat) (n : Nd) (W : World) (pa : Option Addr) (pn pc : Nat) : Prop where
  hb : Below w0.heap.size w0 W
  hs : SpS w0.heap.size W sp p many .nilIface path pa pn pc
  nd : path.Nodup
  hp : ∀ x ∈ path, x ∈ B.map (·.1)
  hv : lv ≤ 25
  hm : many ≤ 600
  hf : (25 - lv) + (B.length - path.length) < f
  hi : Is w0.heap.size w0 n
  hg : good n
  hz : sz n ≤ 600
set_option maxRecDepth 100000 in
set_option maxHeartbeats 2000000 in
theorem named_c (E : Nat → Addr) (w0 : World) (sp p f : Nat) (L X : List Nat) (B : Bks) (hbk : BK w0 p L X B) (hse : Sent 204 w0 E Er.egs)
    (hsp : ∀ path lv many n W pa pn pc, SpC w0 B sp p f path lv many n W pa pn pc → Calls Tryd.prog 64 #[.pointer (some ⟨sp, 0, none⟩), nv n, .int .i64 (lv : Int)] W (SpP E w0.heap.size sp p (spr B f path lv many (er n)) path pa pn pc W))
    (path : List (List UInt8)) (lv many : Nat) (s : List UInt8) (hs12 : s.length ≤ 12) (W : World) (pa : Option Addr) (pn pc : Nat) (hbW : Below w0.heap.size w0 W) (hS : SpS w0.heap.size W sp p many .nilIface path pa pn pc) (hnd : path.Nodup) (hps : ∀ x ∈ path, x ∈ B.map (·.1)) (hlv : lv ≤ 25) (hm : many ≤ 600) (hf : (25 - lv) + (B.length - path.length) < f + 1) :
    Calls Tryd.prog 92 #[.pointer (some ⟨sp, 0, none⟩), .string (Str s), .int .i64 (lv : Int)] W (SpP E w0.heap.size sp p (nres B f path lv many s) path pa pn pc W) := by
  have hlen := hbk.len
  have hbase := hbk.lts
  obtain ⟨g, c, mb, n, Ts, h10, rfl, h30, rfl⟩ := hbk.ex
  have h1 := h10.mod (Mod.of_below hbW []) (by simp)
  have h3 := h30.mod (Mod.of_below hbW []) (by simp)
  obtain ⟨m1, hm1⟩ : ∃ m1, (lkS Ts s).getD nil0 = m1 := ⟨_, rfl⟩
  have hi1 : Is W.heap.size W m1 := by
    rw [← hm1]
    cases hk : lkS Ts s with
    | none => exact is_nil0 _ _
    | some m0 => exact (h3 _ (lkS_mem hk)).1
  obtain ⟨x0, x1, x2, x3, hx⟩ := four' hi1.len
  obtain ⟨k, mn, mx, a, nl, cc, t, hnv, _⟩ := nv_explicit hx
  obtain ⟨B4, hB4⟩ : ∃ B4, Obj.cells #[.int .i64 0, .int .u64 0, .int .u64 0, .int .u64 0, .int .u64 0, .slice none 0 0, .int .i64 0, .int .i64 0, .string ⟨#[]⟩] 37 (0, 0) = B4 := ⟨_, rfl⟩
  obtain ⟨B6, hB6⟩ : ∃ B6, Obj.cells #[.int .i64 k, .int .u64 (x0 : Int), .int .u64 (x1 : Int), .int .u64 (x2 : Int), .int .u64 (x3 : Int), .slice a nl cc, .int .i64 mn, .int .i64 mx, .string (Str t)] 37 (0, 0) = B6 := ⟨_, rfl⟩
  have b1 : Below W.heap.size W (W.alloc B4) := (Below.refl _ W).alloc (Nat.le_refl _) _
  have hN1 := h1.mod (Mod.of_below b1 []) (by simp)
  have k1 : (W.alloc B4).cell? ⟨p, 1, none⟩ = some (.map (some mb)) := cell_block hN1.hp 1
  have c0 := (hS.below b1).cell.1
  have hl := hN1.look s (by omega)
  rw [hm1, hnv] at hl
  have z1 : (W.alloc B4).heap.size = W.heap.size + 1 := by simp
  have l4 : ((W.alloc B4).alloc B6).heap[W.heap.size]? = some B4 := block_alloc (World.alloc_heap_new W B4)
  have l6 : ((W.alloc B4).alloc B6).heap[W.heap.size + 1]? = some B6 := by rw [← z1]; exact World.alloc_heap_new _ B6
  have hB : Below W.heap.size W ((W.alloc B4).alloc B6) := b1.alloc (by simp) _
  obtain ⟨W3, hW3⟩ : ∃ W3, (W.alloc B4).alloc B6 = W3 := ⟨_, rfl⟩
  have z3 : W3.heap.size = W.heap.size + 2 := by rw [← hW3]; simp
  rw [hW3] at l4 l6 hB
  rw [← hB4, ← hB6] at hW3
  rw [← hB4] at l4 k1 hl c0
  rw [← hB6] at l6
  clear hB4 hB6 z1 B4 B6 hN1 b1
  have hS3 := hS.below hB
  have hb3 := hbW.trans (hB.mono hbW.size)
  have hgl : ∀ W : World, Below w0.heap.size w0 W → W.cell? ⟨14, 0, none⟩ = some (ee E 15) ∧ W.cell? ⟨8, 0, none⟩ = some (ee E 8) := fun W hb =>
    ⟨sentc (hse.keep hb) 15 (by decide) (by decide), sentc (hse.keep hb) 8 (by decide) (by decide)⟩
  have HB := Lib.hid hB
  have HZ := Lib.hid z3
  have HI := Lib.hid hi1
  have HW3 := Lib.hid hW3
  have HNv := Lib.hid hnv
  have HS := Lib.hid hS
  obtain ⟨bo, hbo⟩ : ∃ bo, (lkS Ts s).isSome = bo := ⟨_, rfl⟩
  rw [hbo] at hl
  cases bo with
  | false =>
    have hres : nres (erB Ts) f path lv many s = (15, many, nil0) := by
      have : lkS (erB Ts) s = none := by rw [lkS_er]; simpa using hbo
      rw [nres, this]
    rw [hres]
    obtain ⟨g15, _⟩ := hgl W3 hb3
    obtain ⟨e15, h15⟩ : ∃ v, ee E 15 = .iface 204 (.pointer (some v)) := ⟨_, rfl⟩
    have hfin : ∀ W', SpS w0.heap.size W' sp p many (ee E 15) path pa pn pc → Mod [sp] W W' → SpP E w0.heap.size sp p (15, many, nil0) path pa pn pc W (.returned (nv nil0)) W' := fun W' h1 h2 =>
      ⟨nil0, pa, pc, rfl, h1, (fun h => by cases h), is_nil0 _ _, bl_nil0 _, h2.sub (by intro q hq; simp at hq; simp [hq]), Fr.refl _ _⟩
    rw [h15] at g15
    obtain ⟨hS4, hM4⟩ := hS3.err (ee E 15)
    rw [h15] at hS4 hM4
    have l44 := (hM4.block _ (block_lt l4) (by have := (hS.lts sp (by simp)).2; simp; omega)).trans l4
    obtain ⟨W4, hW4⟩ : ∃ W4, W3.setCell ⟨sp, 3, none⟩ (.iface 204 (.pointer (some e15))) = W4 := ⟨_, rfl⟩
    rw [hW4] at hS4 hM4 l44
    obtain ⟨d0, d1, d2, d3, d4, d5, d6, d7, d8⟩ := nd_cells l44
    obtain ⟨f0, f1, f2, f3, f4, f5, f6, f7, f8⟩ := frz9 l44
    have hpb := put9_block l44 (.int .i64 0) (.int .u64 0) (.int .u64 0) (.int .u64 0) (.int .u64 0) (.slice none 0 0) (.int .i64 0) (.int .i64 0) (.string ⟨#[]⟩)
    have hpm := put9_mod W4 W.heap.size (.int .i64 0) (.int .u64 0) (.int .u64 0) (.int .u64 0) (.int .u64 0) (.slice none 0 0) (.int .i64 0) (.int .i64 0) (.string ⟨#[]⟩)
    have hlsp := hS.lts
    have hre := hfin _ (by rw [h15]; exact hS4.mod hpm (fun b hb hq => by simp at hb; subst hb; have := (hlsp _ hq).2; omega)) (((Mod.of_below hB [sp]).trans hM4 (fun q hq => .inl hq)).trans (hpm.sub (S' := [W.heap.size, sp]) (by simp)) (fun q hq => by simp at hq; rcases hq with rfl | rfl; exact .inr (Nat.le_refl _); exact .inl (by simp)))
    have HRe := Lib.hid hre
    have HPb := Lib.hid hpb
    have HW4 := Lib.hid hW4
    have hfs := hS3.frz 3
    have c3 := hS3.cell.2.2.2
    clear h10 h30 hre hpb hpm hW4 hfin hS3 hS4 hM4 l44 l4 l6 hB z3 hW3 hi1 hm1 hx hnv hbo h1 h3 hbk hse hsp hbW hS hnd hps hf hbase hgl hres h15 hb3 hlsp
    go_enter Tryd.func92, Tryd.ntmps92
    go_upto_region 2 with (fail)
    rw [HW3.out]
    go_upto_region 4 with (fail)
    rw [HW4.out]
    go_wp2
    ((try simp only [Exit.inBlock, Exit.then]); refine bodyPost_ret (results_cell_row rfl _ _ (W.heap.size) 37 _ (0, 0) _ rfl (HPb.out) Tryd.underlying37 rfl ?hi1) rfl ?_; (case hi1 => kernel_rfl))
    exact HRe.out
  | true =>
    obtain ⟨m0, hm0⟩ := Option.isSome_iff_exists.1 hbo
    have hm01 : m0 = m1 := by rw [← hm1, hm0]; rfl
    subst hm01
    have hlk : lkS (erB Ts) s = some (er m0) := by rw [lkS_er, hm0]; rfl
    have hhc := has_c pa pc pn path s W3 hS3.hn (by have := hS3.hn; have h2 := nodup_le hnd hps; simp [erB] at h2; have := h1.le; have := h1.hn; omega) (Rd.own hS3.ho)
    by_cases hin : s ∈ path
    · have hres : nres (erB Ts) f path lv many s = (8, many, nil0) := by
        rw [nres, hlk]
        simp only [if_pos hin]
      rw [hres]
      obtain ⟨_, g8⟩ := hgl W3 hb3
      obtain ⟨e8, h8⟩ : ∃ v, ee E 8 = .iface 204 (.pointer (some v)) := ⟨_, rfl⟩
      have hfin : ∀ W', SpS w0.heap.size W' sp p many (ee E 8) path pa pn pc → Mod [sp] W W' → SpP E w0.heap.size sp p (8, many, nil0) path pa pn pc W (.returned (nv nil0)) W' := fun W' h1 h2 =>
        ⟨nil0, pa, pc, rfl, h1, (fun h => by cases h), is_nil0 _ _, bl_nil0 _, h2.sub (by intro q hq; simp at hq; simp [hq]), Fr.refl _ _⟩
      rw [h8] at g8
      have hhc' : Calls Tryd.prog 65 #[.slice pa pn pc, .string (Str s)] W3 fun e w' => e = .returned (.bool true) ∧ W3 = w' := by
        have := hhc
        rw [decide_eq_true hin] at this
        exact this
      obtain ⟨hS4, hM4⟩ := hS3.err (ee E 8)
      rw [h8] at hS4 hM4
      have l44 := (hM4.block _ (block_lt l4) (by have := (hS.lts sp (by simp)).2; simp; omega)).trans l4
      obtain ⟨W4, hW4⟩ : ∃ W4, W3.setCell ⟨sp, 3, none⟩ (.iface 204 (.pointer (some e8))) = W4 := ⟨_, rfl⟩
      rw [hW4] at hS4 hM4 l44
      obtain ⟨d0, d1, d2, d3, d4, d5, d6, d7, d8⟩ := nd_cells l44
      obtain ⟨f0, f1, f2, f3, f4, f5, f6, f7, f8⟩ := frz9 l44
      have hpb := put9_block l44 (.int .i64 0) (.int .u64 0) (.int .u64 0) (.int .u64 0) (.int .u64 0) (.slice none 0 0) (.int .i64 0) (.int .i64 0) (.string ⟨#[]⟩)
      have hpm := put9_mod W4 W.heap.size (.int .i64 0) (.int .u64 0) (.int .u64 0) (.int .u64 0) (.int .u64 0) (.slice none 0 0) (.int .i64 0) (.int .i64 0) (.string ⟨#[]⟩)
      have hlsp := hS.lts
      have hre := hfin _ (by rw [h8]; exact hS4.mod hpm (fun b hb hq => by simp at hb; subst hb; have := (hlsp _ hq).2; omega)) (((Mod.of_below hB [sp]).trans hM4 (fun q hq => .inl hq)).trans (hpm.sub (S' := [W.heap.size, sp]) (by simp)) (fun q hq => by simp at hq; rcases hq with rfl | rfl; exact .inr (Nat.le_refl _); exact .inl (by simp)))
      have HRe := Lib.hid hre
      have HPb := Lib.hid hpb
      have HW4 := Lib.hid hW4
      have hfs := hS3.frz 3
      obtain ⟨_, _, c2, c3⟩ := hS3.cell
      have HHc := Lib.hid hhc'
      clear h10 h30 hre hpb hpm hW4 hfin hS3 hS4 hM4 l44 l4 l6 hB z3 hW3 hi1 hm1 hx hnv hbo h1 h3 hbk hse hsp hbW hS hnd hps hf hbase hgl hres h8 hb3 hlsp hhc hhc' hlk hm0 hin
      go_enter Tryd.func92, Tryd.ntmps92
      go_upto_region 2 with (fail)
      rw [HW3.out]
      go_wp2_with fail
      with_reducible refine HHc.out.mono ?_
      rintro e w4 ⟨rfl, rfl⟩
      go_upto_region 7 with (fail)
      rw [HW4.out]
      go_wp2
      ((try simp only [Exit.inBlock, Exit.then]); refine bodyPost_ret (results_cell_row rfl _ _ (W.heap.size) 37 _ (0, 0) _ rfl (HPb.out) Tryd.underlying37 rfl ?hi2) rfl ?_; (case hi2 => kernel_rfl))
      exact HRe.out
    · have hres : nres (erB Ts) f path lv many s = spr (erB Ts) f (path ++ [s]) lv many (er m0) := by
        rw [nres, hlk]
        simp only [if_neg hin]
      rw [hres]
      have hhc' : Calls Tryd.prog 65 #[.slice pa pn pc, .string (Str s)] W3 fun e w' => e = .returned (.bool false) ∧ W3 = w' := by
        have := hhc
        rw [decide_eq_false hin] at this
        exact this
      obtain ⟨r1, r2, r3⟩ := path_room hnd hps hlk hin
      have hpn : pn < 100 := by have := hS3.hn; have := h1.le; have := h1.hn; simp [erB] at r3; omega
      obtain ⟨g', cap, w6, hrun, a1, a2, a3, a4, a5⟩ := hS3.push (by have := hb3.size; omega) hpn s
      obtain ⟨W6, hW6⟩ : ∃ W6, w6.setCell ⟨sp, 2, none⟩ (.slice (some ⟨g', 0, none⟩) (pn + 1) cap) = W6 := ⟨_, rfl⟩
      rw [hW6] at a3 a4
      have hb36 : Below w0.heap.size W3 W6 := hS3.toB a4 (by have := hb3.size; omega)
      have hlts := hS.lts
      have hno : ∀ i, i = W.heap.size ∨ i = W.heap.size + 1 → i ∉ So sp pa pn pc := fun i hi hq => by have := (hlts i hq).2; omega
      have l46 := (a4.block _ (block_lt l4) (hno _ (.inl rfl))).trans l4
      have l66 := (a4.block _ (block_lt l6) (hno _ (.inr rfl))).trans l6
      have hm0l := lkS_mem hm0
      obtain ⟨t1, t2, _⟩ := h30 _ hm0l
      have hb06 := hb3.trans hb36
      have hC : SpC w0 (erB Ts) sp p f (path ++ [s]) lv many m0 W6 (some ⟨g', 0, none⟩) (pn + 1) cap :=
        ⟨hb06, a3, r1, r2, hlv, hm, (by rw [List.length_append, List.length_cons, List.length_nil]; omega), t1, rgt_good t2, rgt_sz t2⟩
      have hcl := hsp _ _ _ _ _ _ _ _ hC
      rw [hnv] at hcl
      have c2 := hS3.cell.2.2.1
      have k2 : (W3.alloc (.cells #[.string (Str s)] 9)).cell? ⟨sp, 2, none⟩ = some (.slice pa pn pc) := (hS3.below ((Below.refl _ _).alloc (Nat.le_refl _) _)).cell.2.2.1
      obtain ⟨u0, u1, u2, u3, u4, u5, u6, u7, u8⟩ := nd_cells l66
      have hz6 := a4.size
      have hfin : ∀ (w7 w9 : World) (m : Nd) (g2 pc' : Nat), SpS w0.heap.size w7 sp p (spr (erB Ts) f (path ++ [s]) lv many (er m0)).2.1 (ee E (spr (erB Ts) f (path ++ [s]) lv many (er m0)).1) (path ++ [s]) (some ⟨g2, 0, none⟩) (pn + 1) pc' →
          ((spr (erB Ts) f (path ++ [s]) lv many (er m0)).1 = 0 → er m = (spr (erB Ts) f (path ++ [s]) lv many (er m0)).2.2) → Is w7.heap.size w7 m → Bl (fun q => W6.heap.size ≤ q ∧ (Value.slice (some ⟨g2, 0, none⟩) (pn + 1) pc').ownBlock ≠ some q) m → Mod (So sp (some ⟨g', 0, none⟩) (pn + 1) cap) W6 w7 → Fr (So sp (some ⟨g2, 0, none⟩) (pn + 1) pc') (So sp (some ⟨g', 0, none⟩) (pn + 1) cap) W6.heap.size →
          Mod [sp, W.heap.size, W.heap.size + 1] w7 w9 → SpS w0.heap.size w9 sp p (spr (erB Ts) f (path ++ [s]) lv many (er m0)).2.1 (ee E (spr (erB Ts) f (path ++ [s]) lv many (er m0)).1) path (some ⟨g2, 0, none⟩) pn pc' →
          SpP E w0.heap.size sp p (spr (erB Ts) f (path ++ [s]) lv many (er m0)) path pa pn pc W (.returned (nv m)) w9 := by
        intro w7 w9 m g2 pc' b1 b2 b3 b4 b5 b6 b7 b8
        have hfr : Fr (So sp (some ⟨g2, 0, none⟩) pn pc') (So sp pa pn pc) W.heap.size := fun k hk => by
          rcases b6 k hk with h | h
          · rcases a5 k h with h | h
            · exact .inl h
            · exact .inr (by omega)
          · exact .inr (by omega)
        refine ⟨m, _, _, rfl, b8, b2, is_mod b3 b4 b7 (fun b hb => .inl fun hq => ?_), b4.mono fun q hq => ⟨by omega, hq.2⟩, ?_, hfr⟩
        · simp only [List.mem_cons, List.not_mem_nil, or_false] at hb
          have := (hlts sp (by simp)).2
          rcases hb with rfl | rfl | rfl
          · omega
          · omega
          · omega
        · have m1 : Mod (So sp pa pn pc) W W6 := (Mod.of_below hB _).trans a4 (fun q hq => .inl hq)
          have m2 : Mod (So sp pa pn pc) W w7 := m1.trans b5 (fun q hq => by
            rcases a5 q hq with h | h
            · exact .inl h
            · exact .inr (by omega))
          exact m2.trans b7 (fun q hq => by
            simp only [List.mem_cons, List.not_mem_nil, or_false] at hq
            rcases hq with rfl | rfl | rfl
            · exact .inl (by simp)
            · exact .inr (Nat.le_refl _)
            · exact .inr (by omega))
      have hno6 : ∀ i, i = W.heap.size ∨ i = W.heap.size + 1 → i ∉ So sp (some ⟨g', 0, none⟩) (pn + 1) cap := fun i hi hq => by
        rcases a5 i hq with h | h
        · exact hno i hi h
        · omega
      have HF := Lib.hid hfin
      have HNo := Lib.hid hno6
      have HCl := Lib.hid hcl
      have HHc := Lib.hid hhc'
      have HW6 := Lib.hid hW6
      have H46 := Lib.hid l46
      have H66 := Lib.hid l66
      have HZ6 := Lib.hid hz6
      have HSp := Lib.hid (hlts sp (by simp)).2
      clear hfin hno6 hcl hhc hhc' hW6 l46 l66 hz6 hC a3 a4 a5 r1 r2 r3 hb36 hlts hno hm0l t1 t2 hb06 h10 h30 hS3 l4 l6 hB z3 hW3 hi1 hm1 hx hnv hbo h1 h3 hbk hse hsp hbW hS hnd hps hf hbase hgl hres hb3 hlk hm0 hin
      go_enter Tryd.func92, Tryd.ntmps92
      go_upto_region 2 with (fail)
      rw [HW3.out]
      go_wp2_with fail
      with_reducible refine HHc.out.mono ?_
      rintro e w4 ⟨rfl, rfl⟩
      go_upto_region 9 with ((at_builtin; (with_reducible apply wpList_append_run hrun); rfl; rfl; rfl; rfl; rfl))
      rw [HW6.out]
      go_wp2_with fail
      with_reducible refine HCl.out.mono ?_
      rintro e w7 ⟨m, pa', pc', rfl, b1, b2, b3, b4, b5, b6⟩
      obtain ⟨g2, rfl, _, _⟩ := own_some' b1.ho (by omega)
      have hz6 := HZ6.out
      have hz3 := HZ.out
      have l47 := (b5.block _ (block_lt H46.out) (HNo.out _ (.inl rfl))).trans H46.out
      have l67 := (b5.block _ (block_lt H66.out) (HNo.out _ (.inr rfl))).trans H66.out
      obtain ⟨v0, v1, v2, v3, hvs⟩ := four' b3.len
      obtain ⟨k', mn', mx', a', nl', c', t', hnv, hcl⟩ := nv_explicit hvs
      obtain ⟨d0, d1, d2, d3, d4, d5, d6, d7, d8⟩ := nd_cells l67
      obtain ⟨f0, f1, f2, f3, f4, f5, f6, f7, f8⟩ := frz9 l67
      have hpb := put9_block l67 (.int .i64 k') (.int .u64 (v0 : Int)) (.int .u64 (v1 : Int)) (.int .u64 (v2 : Int)) (.int .u64 (v3 : Int)) (.slice a' nl' c') (.int .i64 mn') (.int .i64 mx') (.string (Str t'))
      have hpm := put9_mod w7 (W.heap.size + 1) (.int .i64 k') (.int .u64 (v0 : Int)) (.int .u64 (v1 : Int)) (.int .u64 (v2 : Int)) (.int .u64 (v3 : Int)) (.slice a' nl' c') (.int .i64 mn') (.int .i64 mx') (.string (Str t'))
      obtain ⟨W8, hW8⟩ : ∃ W8, put9 w7 (W.heap.size + 1) (.int .i64 k') (.int .u64 (v0 : Int)) (.int .u64 (v1 : Int)) (.int .u64 (v2 : Int)) (.int .u64 (v3 : Int)) (.slice a' nl' c') (.int .i64 mn') (.int .i64 mx') (.string (Str t')) = W8 := ⟨_, rfl⟩
      rw [hW8] at hpb hpm
      have b18 := b1.mod hpm (fun b hb hq => by
        simp at hb
        subst hb
        rcases b6 _ hq with h | h
        · exact HNo.out _ (.inr rfl) h
        · omega)
      have HW8 := Lib.hid hW8
      simp only [hnv]
      clear hW8
      go_upto_region 10 with (fail)
      unfold put9 at HW8
      rw [HW8.out]
      clear u0 u1 u2 u3 u4 u5 u6 u7 u8 d0 d1 d2 d3 d4 d5 d6 d7 d8 f0 f1 f2 f3 f4 f5 f6 f7 f8 HCl HHc HW6 HW3 hrun a1 a2 k2 c2
      have c2 := b18.cell.2.2.1
      have hfz := b18.frz 2
      have hwr : IntKind.i64.wrap (((pn : Int) + 1) - 1) = (pn : Int) := by rw [IntKind.wrap_i64]; omega
      obtain ⟨_, hM9, hpc⟩ := b18.pop
      have hB1 := Lib.hid b1
      clear b1
      go_region
      obtain ⟨b9, hM9, _⟩ := b18.pop
      obtain ⟨W9, hW9⟩ : ∃ W9, (W8.setCell ⟨sp, 2, none⟩ (.slice (some ⟨g2, 0, none⟩) pn pc')).drew = W9 := ⟨_, rfl⟩
      have b9 := b9.below (Below.refl _ _).drew
      have hM9 := hM9.drew
      rw [hW9] at b9 hM9
      have hz7 := b5.size
      have hlt7 := block_lt l67
      have hlt4 := block_lt l47
      have l69 := (hM9.block _ (block_lt hpb) (by have := HSp.out; simp; omega)).trans hpb
      have l48 := (hpm.block _ hlt4 (by simp)).trans l47
      have l49 := (hM9.block _ (block_lt l48) (by have := HSp.out; simp; omega)).trans l48
      obtain ⟨u0, u1, u2, u3, u4, u5, u6, u7, u8⟩ := nd_cells l69
      obtain ⟨d0, d1, d2, d3, d4, d5, d6, d7, d8⟩ := nd_cells l49
      obtain ⟨f0, f1, f2, f3, f4, f5, f6, f7, f8⟩ := frz9 l49
      have hpb9 := put9_block l49 (.int .i64 k') (.int .u64 (v0 : Int)) (.int .u64 (v1 : Int)) (.int .u64 (v2 : Int)) (.int .u64 (v3 : Int)) (.slice a' nl' c') (.int .i64 mn') (.int .i64 mx') (.string (Str t'))
      have hpm9 := put9_mod W9 W.heap.size (.int .i64 k') (.int .u64 (v0 : Int)) (.int .u64 (v1 : Int)) (.int .u64 (v2 : Int)) (.int .u64 (v3 : Int)) (.slice a' nl' c') (.int .i64 mn') (.int .i64 mx') (.string (Str t'))
      have b10 := b9.mod hpm9 (fun b hb hq => by
        simp only [List.mem_singleton] at hb
        subst hb
        rcases b6 _ hq with h | h
        · exact HNo.out _ (.inl rfl) h
        · omega)
      have hM := ((hpm.sub (S' := [sp, W.heap.size, W.heap.size + 1]) (by simp)).trans (hM9.sub (S' := [sp, W.heap.size, W.heap.size + 1]) (by simp)) (fun q hq => .inl hq)).trans (hpm9.sub (S' := [sp, W.heap.size, W.heap.size + 1]) (by simp)) (fun q hq => .inl hq)
      have hre := HF.out w7 _ m g2 pc' hB1.out b2 b3 b4 b5 b6 hM b10
      rw [hnv] at hre
      have HRe := Lib.hid hre
      have HPb := Lib.hid hpb9
      have HW9 := Lib.hid hW9
      clear hre hpb9 hpm9 b10 hM b9 hM9 hW9 l69 l48 l49 l47 l67 hpb hpm b18 b2 b3 b4 b5 b6 hnv hcl hvs c2 hfz
      rw [HW9.out]
      go_wp2
      ((try simp only [Exit.inBlock, Exit.then]); refine bodyPost_ret (results_cell_row rfl _ _ (W.heap.size) 37 _ (0, 0) _ rfl (HPb.out) Tryd.underlying37 rfl ?hi3) rfl ?_; (case hi3 => kernel_rfl))
      exact HRe.out
end Bo
end Go.Proofs.YteekonojmpihlaaDoor
