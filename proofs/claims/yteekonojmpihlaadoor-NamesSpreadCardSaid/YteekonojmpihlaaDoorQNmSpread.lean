import Derived.Test.YteekonojmpihlaaDoorQNmSpL
import Derived.Deep.RegionHeld3
/- Package names: spread, the spread with one call less at hand. Printed by gen_nmspread.py. Condition: the sentinels read as laid. -/
namespace Go.Proofs.YteekonojmpihlaaDoor
namespace Kt
end Kt
namespace St
end St
namespace Sp
end Sp
namespace Bk
end Bk
namespace Tr
end Tr
open Go Go.RowKit Kt St Sp Bk Tr
namespace Bo
theorem SpP.fin {E : Nat → Addr} {b0 sp p b pn pc : Nat} {r : Int × Nat × Nd} {path : List (List UInt8)} {pa pa' : Option Addr} {pc' many : Nat} {ev : Value} {W W3 w4 w5 : World} {m : Nd} (hS : SpS b0 W sp p many ev path pa pn pc) (hB : Below W.heap.size W W3) (hb : W.heap.size ≤ b) (hb3 : b < W3.heap.size)
    (q1 : SpS b0 w4 sp p r.2.1 (ee E r.1) path pa' pn pc') (q2 : r.1 = 0 → er m = r.2.2) (q3 : Is w4.heap.size w4 m) (q4 : Bl (fun q => W3.heap.size ≤ q ∧ (Value.slice pa' pn pc').ownBlock ≠ some q) m) (q5 : Mod (So sp pa pn pc) W3 w4) (q6 : Fr (So sp pa' pn pc') (So sp pa pn pc) W3.heap.size) (hM : Mod [b] w4 w5) :
    SpP E b0 sp p r path pa pn pc W (.returned (nv m)) w5 := by
  have hlt := hS.lts
  have hz := hB.size
  refine ⟨m, pa', pc', rfl, q1.mod hM (fun k hk hq => ?_), q2, is_mod q3 q4 hM (fun k hk => .inl fun hq => by simp at hk; omega), q4.mono fun q hq => ⟨by omega, hq.2⟩, ?_, fun k hk => ?_⟩
  · simp only [List.mem_singleton] at hk
    subst hk
    rcases q6 k hq with h | h
    · have := (hlt k h).2; omega
    · omega
  · exact ((Mod.of_below hB _).trans q5 (fun q hq => .inl hq)).trans hM (fun q hq => .inr (by simp at hq; omega))
  · rcases q6 k hk with h | h
    · exact .inl h
    · exact .inr (by omega)
set_option maxRecDepth 100000 in
set_option maxHeartbeats 1000000 in
theorem spread_err (_E : Nat → Addr) (b0 sp p many : Nat) (path : List (List UInt8)) (pa : Option Addr) (pn pc : Nat) (v : Addr) (lv : Int) {k : Int} {s : List Nat} {mn mx : Int} {t : List UInt8} {a : Option Addr} {c : Nat} {ks : List Nd} (W : World) (hS : SpS b0 W sp p many (.iface 204 (.pointer (some v))) path pa pn pc) (hlen : s.length = 4) :
    Calls Tryd.prog 64 #[.pointer (some ⟨sp, 0, none⟩), nv (.mk k s mn mx t a c ks), .int .i64 lv] W fun e w' => e = .returned (nv nil0) ∧ Below W.heap.size W w' := by
  obtain ⟨x0, x1, x2, x3, hl⟩ := four' hlen
  subst hl
  have hnv : nv (.mk k [x0, x1, x2, x3] mn mx t a c ks) = .agg #[.int .i64 k, .int .u64 (x0 : Int), .int .u64 (x1 : Int), .int .u64 (x2 : Int), .int .u64 (x3 : Int), .slice a ks.length c, .int .i64 mn, .int .i64 mx, .string (Str t)] := rfl
  rw [hnv]
  clear hnv
  obtain ⟨nl, hnl⟩ : ∃ nl, ks.length = nl := ⟨_, rfl⟩
  rw [hnl]
  obtain ⟨B2, hB2⟩ : ∃ B2, Obj.cells #[.int .i64 k, .int .u64 (x0 : Int), .int .u64 (x1 : Int), .int .u64 (x2 : Int), .int .u64 (x3 : Int), .slice a nl c, .int .i64 mn, .int .i64 mx, .string (Str t)] 37 (0, 0) = B2 := ⟨_, rfl⟩
  obtain ⟨B4, hB4⟩ : ∃ B4, Obj.cells #[.int .i64 0, .int .u64 0, .int .u64 0, .int .u64 0, .int .u64 0, .slice none 0 0, .int .i64 0, .int .i64 0, .string ⟨#[]⟩] 37 (0, 0) = B4 := ⟨_, rfl⟩
  have z1 : (W.alloc B2).heap.size = W.heap.size + 1 := by simp
  have l2 : ((W.alloc B2).alloc B4).heap[W.heap.size]? = some B2 := block_alloc (World.alloc_heap_new W B2)
  have l4 : ((W.alloc B2).alloc B4).heap[W.heap.size + 1]? = some B4 := by rw [← z1]; exact World.alloc_heap_new _ B4
  have hB : Below W.heap.size W ((W.alloc B2).alloc B4) := ((Below.refl _ W).alloc (Nat.le_refl _) _).alloc (by simp) _
  obtain ⟨W3, hW3⟩ : ∃ W3, (W.alloc B2).alloc B4 = W3 := ⟨_, rfl⟩
  have z3 : W3.heap.size = W.heap.size + 2 := by rw [← hW3]; simp
  rw [hW3] at l2 l4 hB
  rw [← hB2, ← hB4] at hW3
  rw [← hB2] at l2
  rw [← hB4] at l4
  clear hB2 hB4 z1 B2 B4
  have hS3 := hS.below hB
  have hlts := hS.lts
  have HW3 := Lib.hid hW3
  have HB := Lib.hid hB
  have HZ := Lib.hid z3
  obtain ⟨_, _, _, c3⟩ := hS3.cell
  obtain ⟨d0, d1, d2, d3, d4, d5, d6, d7, d8⟩ := nd_cells l4
  obtain ⟨f0, f1, f2, f3, f4, f5, f6, f7, f8⟩ := frz9 l4
  have hpb := put9_block l4 (.int .i64 0) (.int .u64 0) (.int .u64 0) (.int .u64 0) (.int .u64 0) (.slice none 0 0) (.int .i64 0) (.int .i64 0) (.string ⟨#[]⟩)
  have hpm := put9_mod W3 (W.heap.size + 1) (.int .i64 0) (.int .u64 0) (.int .u64 0) (.int .u64 0) (.int .u64 0) (.slice none 0 0) (.int .i64 0) (.int .i64 0) (.string ⟨#[]⟩)
  have hre := hB.trans (hpm.toBelow hB.size (by simp))
  have HRe := Lib.hid hre
  have HPb := Lib.hid hpb
  clear hre hpb hpm hS3 l2 l4 hB z3 hW3 hnl hS hlts
  go_enter Tryd.func64, Tryd.ntmps64
  go_upto_region 1 with (fail)
  rw [HW3.out]
  go_wp2
  ((try simp only [Exit.inBlock, Exit.then]); refine bodyPost_ret (results_cell_row rfl _ _ (W.heap.size + 1) 37 _ (0, 0) _ rfl (HPb.out) Tryd.underlying37 rfl ?hi1) rfl ?_; (case hi1 => kernel_rfl))
  exact ⟨rfl, HRe.out⟩
set_option maxRecDepth 100000 in
set_option maxHeartbeats 1000000 in
theorem spread_deep (E : Nat → Addr) (w0 : World) (sp p f : Nat) (L X : List Nat) (B : Bks) (_hbk : BK w0 p L X B) (hse : Sent 204 w0 E Er.egs)
    (path : List (List UInt8)) (lv many : Nat) {k : Int} {s : List Nat} {mn mx : Int} {t : List UInt8} {a : Option Addr} {c : Nat} {ks : List Nd} (W : World) (pa : Option Addr) (pn pc : Nat) (hC : SpC w0 B sp p (f + 1) path lv many (.mk k s mn mx t a c ks) W pa pn pc) (hk : k ≠ 5) (h24 : 24 < lv) :
    Calls Tryd.prog 64 #[.pointer (some ⟨sp, 0, none⟩), nv (.mk k s mn mx t a c ks), .int .i64 (lv : Int)] W (SpP E w0.heap.size sp p (spr B (f + 1) path lv many (er (.mk k s mn mx t a c ks))) path pa pn pc W) := by
  have hres : spr B (f + 1) path lv many (er (.mk k s mn mx t a c ks)) = (7, many, nil0) := by
    have hk' : (er (.mk k s mn mx t a c ks)).kind ≠ 5 := hk
    unfold spr
    rw [if_neg hk', if_pos h24]
  rw [hres]
  have hbW := hC.hb
  have hS := hC.hs
  have hIs : Is W.heap.size W (.mk k s mn mx t a c ks) := Is.mono hbW.size (Is.below hbW hC.hi)
  obtain ⟨x0, x1, x2, x3, hl⟩ := four' hIs.1
  subst hl
  have hnv : nv (.mk k [x0, x1, x2, x3] mn mx t a c ks) = .agg #[.int .i64 k, .int .u64 (x0 : Int), .int .u64 (x1 : Int), .int .u64 (x2 : Int), .int .u64 (x3 : Int), .slice a ks.length c, .int .i64 mn, .int .i64 mx, .string (Str t)] := rfl
  rw [hnv]
  clear hnv
  obtain ⟨nl, hnl⟩ : ∃ nl, ks.length = nl := ⟨_, rfl⟩
  rw [hnl]
  obtain ⟨B2, hB2⟩ : ∃ B2, Obj.cells #[.int .i64 k, .int .u64 (x0 : Int), .int .u64 (x1 : Int), .int .u64 (x2 : Int), .int .u64 (x3 : Int), .slice a nl c, .int .i64 mn, .int .i64 mx, .string (Str t)] 37 (0, 0) = B2 := ⟨_, rfl⟩
  obtain ⟨B4, hB4⟩ : ∃ B4, Obj.cells #[.int .i64 0, .int .u64 0, .int .u64 0, .int .u64 0, .int .u64 0, .slice none 0 0, .int .i64 0, .int .i64 0, .string ⟨#[]⟩] 37 (0, 0) = B4 := ⟨_, rfl⟩
  have z1 : (W.alloc B2).heap.size = W.heap.size + 1 := by simp
  have l2 : ((W.alloc B2).alloc B4).heap[W.heap.size]? = some B2 := block_alloc (World.alloc_heap_new W B2)
  have l4 : ((W.alloc B2).alloc B4).heap[W.heap.size + 1]? = some B4 := by rw [← z1]; exact World.alloc_heap_new _ B4
  have hB : Below W.heap.size W ((W.alloc B2).alloc B4) := ((Below.refl _ W).alloc (Nat.le_refl _) _).alloc (by simp) _
  obtain ⟨W3, hW3⟩ : ∃ W3, (W.alloc B2).alloc B4 = W3 := ⟨_, rfl⟩
  have z3 : W3.heap.size = W.heap.size + 2 := by rw [← hW3]; simp
  rw [hW3] at l2 l4 hB
  rw [← hB2, ← hB4] at hW3
  rw [← hB2] at l2
  rw [← hB4] at l4
  clear hB2 hB4 z1 B2 B4
  have hS3 := hS.below hB
  have hb3 := hbW.trans (hB.mono hbW.size)
  have hlts := hS.lts
  have HW3 := Lib.hid hW3
  have HB := Lib.hid hB
  have HZ := Lib.hid z3
  have gl : W3.cell? ⟨7, 0, none⟩ = some (ee E 7) := sentc (hse.keep hb3) 7 (by decide) (by decide)
  obtain ⟨ev, hev⟩ : ∃ v, ee E 7 = .iface 204 (.pointer (some v)) := ⟨_, rfl⟩
  rw [hev] at gl
  obtain ⟨hS4, hM4⟩ := hS3.err (ee E 7)
  have hfin : ∀ w4 w5, SpS w0.heap.size w4 sp p many (ee E 7) path pa pn pc → Mod [sp] W3 w4 → Mod [W.heap.size + 1] w4 w5 → SpP E w0.heap.size sp p (7, many, nil0) path pa pn pc W (.returned (nv nil0)) w5 := fun w4 w5 h1 h2 h3 =>
    SpP.fin hS hB (by omega) (by omega) (r := (7, many, nil0)) h1 (fun _ => rfl) (is_nil0 _ _) (bl_nil0 _) (h2.sub (by intro q hq; simp at hq; simp [hq])) (Fr.refl _ _) h3
  have hre0 := fun w5 h3 => hfin _ w5 hS4 hM4 h3
  rw [hev] at hS4 hM4 hre0
  have l44 := (hM4.block _ (block_lt l4) (by have := (hlts sp (by simp)).2; simp; omega)).trans l4
  obtain ⟨W4, hW4⟩ : ∃ W4, W3.setCell ⟨sp, 3, none⟩ (.iface 204 (.pointer (some ev))) = W4 := ⟨_, rfl⟩
  rw [hW4] at hS4 hM4 l44 hre0
  obtain ⟨d0, d1, d2, d3, d4, d5, d6, d7, d8⟩ := nd_cells l44
  obtain ⟨f0, f1, f2, f3, f4, f5, f6, f7, f8⟩ := frz9 l44
  have hpb := put9_block l44 (.int .i64 0) (.int .u64 0) (.int .u64 0) (.int .u64 0) (.int .u64 0) (.slice none 0 0) (.int .i64 0) (.int .i64 0) (.string ⟨#[]⟩)
  have hre := hre0 _ (put9_mod W4 (W.heap.size + 1) (.int .i64 0) (.int .u64 0) (.int .u64 0) (.int .u64 0) (.int .u64 0) (.slice none 0 0) (.int .i64 0) (.int .i64 0) (.string ⟨#[]⟩))
  have HRe := Lib.hid hre
  have HPb := Lib.hid hpb
  have HW4 := Lib.hid hW4
  have hfs := hS3.frz 3
  obtain ⟨_, c1, _, c3⟩ := hS3.cell
  have u0 := (nd_cells l2).1
  have hke : (k == 5) = false := by simpa using hk
  have hkd : decide (k = 5) = false := by simpa using hk
  have hgt : (24 : Int) < (lv : Int) := by omega
  clear hre hre0 hpb hW4 hfin hS3 hS4 hM4 l44 l2 l4 hB z3 hW3 hnl hIs hbW hS hC hev hse hres hb3 hlts
  go_enter Tryd.func64, Tryd.ntmps64
  go_upto_region 1 with (fail)
  rw [HW3.out]
  go_upto_region 7 with (fail)
  rw [HW4.out]
  go_wp2
  ((try simp only [Exit.inBlock, Exit.then]); refine bodyPost_ret (results_cell_row rfl _ _ (W.heap.size + 1) 37 _ (0, 0) _ rfl (HPb.out) Tryd.underlying37 rfl ?hi2) rfl ?_; (case hi2 => kernel_rfl))
  exact HRe.out
set_option maxRecDepth 100000 in
set_option maxHeartbeats 1000000 in
theorem spread_many (E : Nat → Addr) (w0 : World) (sp p f : Nat) (L X : List Nat) (B : Bks) (_hbk : BK w0 p L X B) (hse : Sent 204 w0 E Er.egs)
    (path : List (List UInt8)) (lv many : Nat) {k : Int} {s : List Nat} {mn mx : Int} {t : List UInt8} {a : Option Addr} {c : Nat} {ks : List Nd} (W : World) (pa : Option Addr) (pn pc : Nat) (hC : SpC w0 B sp p (f + 1) path lv many (.mk k s mn mx t a c ks) W pa pn pc) (hk : k ≠ 5) (h24 : ¬ 24 < lv) (h6 : 600 ≤ many) :
    Calls Tryd.prog 64 #[.pointer (some ⟨sp, 0, none⟩), nv (.mk k s mn mx t a c ks), .int .i64 (lv : Int)] W (SpP E w0.heap.size sp p (spr B (f + 1) path lv many (er (.mk k s mn mx t a c ks))) path pa pn pc W) := by
  have hres : spr B (f + 1) path lv many (er (.mk k s mn mx t a c ks)) = (9, many, nil0) := by
    have hk' : (er (.mk k s mn mx t a c ks)).kind ≠ 5 := hk
    unfold spr
    rw [if_neg hk', if_neg h24, if_pos h6]
  rw [hres]
  have hbW := hC.hb
  have hS := hC.hs
  have hIs : Is W.heap.size W (.mk k s mn mx t a c ks) := Is.mono hbW.size (Is.below hbW hC.hi)
  obtain ⟨x0, x1, x2, x3, hl⟩ := four' hIs.1
  subst hl
  have hnv : nv (.mk k [x0, x1, x2, x3] mn mx t a c ks) = .agg #[.int .i64 k, .int .u64 (x0 : Int), .int .u64 (x1 : Int), .int .u64 (x2 : Int), .int .u64 (x3 : Int), .slice a ks.length c, .int .i64 mn, .int .i64 mx, .string (Str t)] := rfl
  rw [hnv]
  clear hnv
  obtain ⟨nl, hnl⟩ : ∃ nl, ks.length = nl := ⟨_, rfl⟩
  rw [hnl]
  obtain ⟨B2, hB2⟩ : ∃ B2, Obj.cells #[.int .i64 k, .int .u64 (x0 : Int), .int .u64 (x1 : Int), .int .u64 (x2 : Int), .int .u64 (x3 : Int), .slice a nl c, .int .i64 mn, .int .i64 mx, .string (Str t)] 37 (0, 0) = B2 := ⟨_, rfl⟩
  obtain ⟨B4, hB4⟩ : ∃ B4, Obj.cells #[.int .i64 0, .int .u64 0, .int .u64 0, .int .u64 0, .int .u64 0, .slice none 0 0, .int .i64 0, .int .i64 0, .string ⟨#[]⟩] 37 (0, 0) = B4 := ⟨_, rfl⟩
  have z1 : (W.alloc B2).heap.size = W.heap.size + 1 := by simp
  have l2 : ((W.alloc B2).alloc B4).heap[W.heap.size]? = some B2 := block_alloc (World.alloc_heap_new W B2)
  have l4 : ((W.alloc B2).alloc B4).heap[W.heap.size + 1]? = some B4 := by rw [← z1]; exact World.alloc_heap_new _ B4
  have hB : Below W.heap.size W ((W.alloc B2).alloc B4) := ((Below.refl _ W).alloc (Nat.le_refl _) _).alloc (by simp) _
  obtain ⟨W3, hW3⟩ : ∃ W3, (W.alloc B2).alloc B4 = W3 := ⟨_, rfl⟩
  have z3 : W3.heap.size = W.heap.size + 2 := by rw [← hW3]; simp
  rw [hW3] at l2 l4 hB
  rw [← hB2, ← hB4] at hW3
  rw [← hB2] at l2
  rw [← hB4] at l4
  clear hB2 hB4 z1 B2 B4
  have hS3 := hS.below hB
  have hb3 := hbW.trans (hB.mono hbW.size)
  have hlts := hS.lts
  have HW3 := Lib.hid hW3
  have HB := Lib.hid hB
  have HZ := Lib.hid z3
  have gl : W3.cell? ⟨9, 0, none⟩ = some (ee E 9) := sentc (hse.keep hb3) 9 (by decide) (by decide)
  obtain ⟨ev, hev⟩ : ∃ v, ee E 9 = .iface 204 (.pointer (some v)) := ⟨_, rfl⟩
  rw [hev] at gl
  obtain ⟨hS4, hM4⟩ := hS3.err (ee E 9)
  have hfin : ∀ w4 w5, SpS w0.heap.size w4 sp p many (ee E 9) path pa pn pc → Mod [sp] W3 w4 → Mod [W.heap.size + 1] w4 w5 → SpP E w0.heap.size sp p (9, many, nil0) path pa pn pc W (.returned (nv nil0)) w5 := fun w4 w5 h1 h2 h3 =>
    SpP.fin hS hB (by omega) (by omega) (r := (9, many, nil0)) h1 (fun _ => rfl) (is_nil0 _ _) (bl_nil0 _) (h2.sub (by intro q hq; simp at hq; simp [hq])) (Fr.refl _ _) h3
  have hre0 := fun w5 h3 => hfin _ w5 hS4 hM4 h3
  rw [hev] at hS4 hM4 hre0
  have l44 := (hM4.block _ (block_lt l4) (by have := (hlts sp (by simp)).2; simp; omega)).trans l4
  obtain ⟨W4, hW4⟩ : ∃ W4, W3.setCell ⟨sp, 3, none⟩ (.iface 204 (.pointer (some ev))) = W4 := ⟨_, rfl⟩
  rw [hW4] at hS4 hM4 l44 hre0
  obtain ⟨d0, d1, d2, d3, d4, d5, d6, d7, d8⟩ := nd_cells l44
  obtain ⟨f0, f1, f2, f3, f4, f5, f6, f7, f8⟩ := frz9 l44
  have hpb := put9_block l44 (.int .i64 0) (.int .u64 0) (.int .u64 0) (.int .u64 0) (.int .u64 0) (.slice none 0 0) (.int .i64 0) (.int .i64 0) (.string ⟨#[]⟩)
  have hre := hre0 _ (put9_mod W4 (W.heap.size + 1) (.int .i64 0) (.int .u64 0) (.int .u64 0) (.int .u64 0) (.int .u64 0) (.slice none 0 0) (.int .i64 0) (.int .i64 0) (.string ⟨#[]⟩))
  have HRe := Lib.hid hre
  have HPb := Lib.hid hpb
  have HW4 := Lib.hid hW4
  have hfs := hS3.frz 3
  obtain ⟨_, c1, _, c3⟩ := hS3.cell
  have u0 := (nd_cells l2).1
  have hke : (k == 5) = false := by simpa using hk
  have hkd : decide (k = 5) = false := by simpa using hk
  have hgt : ¬ (24 : Int) < (lv : Int) := by omega
  obtain rfl : many = 600 := by have := hC.hm; omega
  clear hre hre0 hpb hW4 hfin hS3 hS4 hM4 l44 l2 l4 hB z3 hW3 hnl hIs hbW hS hC hev hse hres hb3 hlts
  go_enter Tryd.func64, Tryd.ntmps64
  go_upto_region 1 with (fail)
  rw [HW3.out]
  go_upto_region 10 with (fail)
  rw [HW4.out]
  go_wp2
  ((try simp only [Exit.inBlock, Exit.then]); refine bodyPost_ret (results_cell_row rfl _ _ (W.heap.size + 1) 37 _ (0, 0) _ rfl (HPb.out) Tryd.underlying37 rfl ?hi3) rfl ?_; (case hi3 => kernel_rfl))
  exact HRe.out
set_option maxRecDepth 100000 in
set_option maxHeartbeats 1000000 in
theorem spread_name (E : Nat → Addr) (w0 : World) (sp p f : Nat) (L X : List Nat) (B : Bks) (hbk : BK w0 p L X B) (hse : Sent 204 w0 E Er.egs)
    (path : List (List UInt8)) (lv many : Nat) {k : Int} {s : List Nat} {mn mx : Int} {t : List UInt8} {a : Option Addr} {c : Nat} {ks : List Nd} (W : World) (pa : Option Addr) (pn pc : Nat) (hC : SpC w0 B sp p (f + 1) path lv many (.mk k s mn mx t a c ks) W pa pn pc) (hk : k = 5) (hsp : ∀ path lv many n W pa pn pc, SpC w0 B sp p f path lv many n W pa pn pc → Calls Tryd.prog 64 #[.pointer (some ⟨sp, 0, none⟩), nv n, .int .i64 (lv : Int)] W (SpP E w0.heap.size sp p (spr B f path lv many (er n)) path pa pn pc W)) :
    Calls Tryd.prog 64 #[.pointer (some ⟨sp, 0, none⟩), nv (.mk k s mn mx t a c ks), .int .i64 (lv : Int)] W (SpP E w0.heap.size sp p (spr B (f + 1) path lv many (er (.mk k s mn mx t a c ks))) path pa pn pc W) := by
  have hres : spr B (f + 1) path lv many (er (.mk k s mn mx t a c ks)) = nres B f path lv many t := by
    have hk' : (er (.mk k s mn mx t a c ks)).kind = 5 := hk
    unfold spr nres
    rw [if_pos hk']
    rfl
  rw [hres]
  have hbW := hC.hb
  have hS := hC.hs
  have hIs : Is W.heap.size W (.mk k s mn mx t a c ks) := Is.mono hbW.size (Is.below hbW hC.hi)
  obtain ⟨x0, x1, x2, x3, hl⟩ := four' hIs.1
  subst hl
  have hnv : nv (.mk k [x0, x1, x2, x3] mn mx t a c ks) = .agg #[.int .i64 k, .int .u64 (x0 : Int), .int .u64 (x1 : Int), .int .u64 (x2 : Int), .int .u64 (x3 : Int), .slice a ks.length c, .int .i64 mn, .int .i64 mx, .string (Str t)] := rfl
  rw [hnv]
  clear hnv
  obtain ⟨nl, hnl⟩ : ∃ nl, ks.length = nl := ⟨_, rfl⟩
  rw [hnl]
  obtain ⟨B2, hB2⟩ : ∃ B2, Obj.cells #[.int .i64 k, .int .u64 (x0 : Int), .int .u64 (x1 : Int), .int .u64 (x2 : Int), .int .u64 (x3 : Int), .slice a nl c, .int .i64 mn, .int .i64 mx, .string (Str t)] 37 (0, 0) = B2 := ⟨_, rfl⟩
  obtain ⟨B4, hB4⟩ : ∃ B4, Obj.cells #[.int .i64 0, .int .u64 0, .int .u64 0, .int .u64 0, .int .u64 0, .slice none 0 0, .int .i64 0, .int .i64 0, .string ⟨#[]⟩] 37 (0, 0) = B4 := ⟨_, rfl⟩
  have z1 : (W.alloc B2).heap.size = W.heap.size + 1 := by simp
  have l2 : ((W.alloc B2).alloc B4).heap[W.heap.size]? = some B2 := block_alloc (World.alloc_heap_new W B2)
  have l4 : ((W.alloc B2).alloc B4).heap[W.heap.size + 1]? = some B4 := by rw [← z1]; exact World.alloc_heap_new _ B4
  have hB : Below W.heap.size W ((W.alloc B2).alloc B4) := ((Below.refl _ W).alloc (Nat.le_refl _) _).alloc (by simp) _
  obtain ⟨W3, hW3⟩ : ∃ W3, (W.alloc B2).alloc B4 = W3 := ⟨_, rfl⟩
  have z3 : W3.heap.size = W.heap.size + 2 := by rw [← hW3]; simp
  rw [hW3] at l2 l4 hB
  rw [← hB2, ← hB4] at hW3
  rw [← hB2] at l2
  rw [← hB4] at l4
  clear hB2 hB4 z1 B2 B4
  have hS3 := hS.below hB
  have hb3 := hbW.trans (hB.mono hbW.size)
  have hlts := hS.lts
  have HW3 := Lib.hid hW3
  have HB := Lib.hid hB
  have HZ := Lib.hid z3
  have hnm := named_c E w0 sp p f L X B hbk hse hsp path lv many t (good_text hC.hg) W3 pa pn pc hb3 hS3 hC.nd hC.hp hC.hv hC.hm hC.hf
  have HNm := Lib.hid hnm
  have H4 := Lib.hid l4
  have HS := Lib.hid hS
  obtain ⟨_, _, _, c3⟩ := hS3.cell
  obtain ⟨u0, u1, u2, u3, u4, u5, u6, u7, u8⟩ := nd_cells l2
  subst hk
  clear hnm hS3 l2 l4 hB z3 hW3 hnl hIs hbW hS hC hbk hse hres hb3 hlts hsp
  go_enter Tryd.func64, Tryd.ntmps64
  go_upto_region 1 with (fail)
  rw [HW3.out]
  go_wp2_with fail
  with_reducible refine HNm.out.mono ?_
  rintro e w4 ⟨m, pa', pc', rfl, q1, q2, q3, q4, q5, q6⟩
  have hz3 := HZ.out
  have hlts := HS.out.lts
  have l44 := (q5.block _ (block_lt H4.out) (fun hq => by have := (hlts _ hq).2; omega)).trans H4.out
  obtain ⟨v0, v1, v2, v3, hvs⟩ := four' q3.len
  obtain ⟨k', mn', mx', a', nl', c', t', hnv, hcl⟩ := nv_explicit hvs
  obtain ⟨d0, d1, d2, d3, d4, d5, d6, d7, d8⟩ := nd_cells l44
  obtain ⟨f0, f1, f2, f3, f4, f5, f6, f7, f8⟩ := frz9 l44
  have hpb := put9_block l44 (.int .i64 k') (.int .u64 (v0 : Int)) (.int .u64 (v1 : Int)) (.int .u64 (v2 : Int)) (.int .u64 (v3 : Int)) (.slice a' nl' c') (.int .i64 mn') (.int .i64 mx') (.string (Str t'))
  have hre := SpP.fin HS.out HB.out (by omega) (by omega) q1 q2 q3 q4 q5 q6 (put9_mod w4 (W.heap.size + 1) (.int .i64 k') (.int .u64 (v0 : Int)) (.int .u64 (v1 : Int)) (.int .u64 (v2 : Int)) (.int .u64 (v3 : Int)) (.slice a' nl' c') (.int .i64 mn') (.int .i64 mx') (.string (Str t')))
  rw [hnv] at hre
  have HRe := Lib.hid hre
  have HPb := Lib.hid hpb
  simp only [hnv]
  clear hre hpb hnv hcl hvs q1 q2 q3 q4 q5 q6 l44 hlts hz3 u0 u1 u2 u3 u4 u5 u6 u7 u8
  go_wp2
  ((try simp only [Exit.inBlock, Exit.then]); refine bodyPost_ret (results_cell_row rfl _ _ (W.heap.size + 1) 37 _ (0, 0) _ rfl (HPb.out) Tryd.underlying37 rfl ?hi4) rfl ?_; (case hi4 => kernel_rfl))
  exact HRe.out
set_option maxRecDepth 100000 in
set_option maxHeartbeats 1000000 in
theorem spread_node (E : Nat → Addr) (w0 : World) (sp p f : Nat) (L X : List Nat) (B : Bks) (_hbk : BK w0 p L X B) (_hse : Sent 204 w0 E Er.egs)
    (path : List (List UInt8)) (lv many : Nat) {k : Int} {s : List Nat} {mn mx : Int} {t : List UInt8} {a : Option Addr} {c : Nat} {ks : List Nd} (W : World) (pa : Option Addr) (pn pc : Nat) (hC : SpC w0 B sp p (f + 1) path lv many (.mk k s mn mx t a c ks) W pa pn pc) (hk : k ≠ 5) (h24 : ¬ 24 < lv) (h6 : ¬ 600 ≤ many) (hsp : ∀ path lv many n W pa pn pc, SpC w0 B sp p f path lv many n W pa pn pc → Calls Tryd.prog 64 #[.pointer (some ⟨sp, 0, none⟩), nv n, .int .i64 (lv : Int)] W (SpP E w0.heap.size sp p (spr B f path lv many (er n)) path pa pn pc W)) :
    Calls Tryd.prog 64 #[.pointer (some ⟨sp, 0, none⟩), nv (.mk k s mn mx t a c ks), .int .i64 (lv : Int)] W (SpP E w0.heap.size sp p (spr B (f + 1) path lv many (er (.mk k s mn mx t a c ks))) path pa pn pc W) := by
  obtain rfl : t = [] := one_text hC.hg.1 hk
  obtain ⟨R, hRd⟩ : ∃ R : Nat → Int × Nat × List Nd, R = fun j => sprs (fun q n => spr B f path (lv + 1) q n) (many + 1) ((ks.map er).take j) := ⟨_, rfl⟩
  have hres : spr B (f + 1) path lv many (er (.mk k s mn mx [] a c ks)) = ((R ks.length).1, (R ks.length).2.1, .mk k s mn mx [] none 0 (R ks.length).2.2) := by
    have hk' : (er (.mk k s mn mx [] a c ks)).kind ≠ 5 := hk
    unfold spr
    rw [if_neg hk', if_neg h24, if_neg h6, hRd]
    simp only
    rw [List.take_of_length_le (by simp), ← ers_map]
    rfl
  have hR0 : R 0 = (0, many + 1, []) := by rw [hRd]; rfl
  have hRs : ∀ (j : Nat) (hj : j < ks.length), R (j + 1) = if (R j).1 = 0 then ((spr B f path (lv + 1) (R j).2.1 (er ks[j])).1, (spr B f path (lv + 1) (R j).2.1 (er ks[j])).2.1, (R j).2.2 ++ [(spr B f path (lv + 1) (R j).2.1 (er ks[j])).2.2]) else R j := fun j hj => by
    rw [hRd]
    have := sprs_take (fun q n => spr B f path (lv + 1) q n) (many + 1) (ks.map er) j (by simpa using hj)
    simpa using this
  have hRm : ∀ j, (R j).2.1 ≤ 600 := fun j => by
    rw [hRd]
    exact sprs_le _ (fun q n hq => spr_le B f path (lv + 1) q n hq) _ (by omega) _
  rw [hres]
  have hbW := hC.hb
  have hS := hC.hs
  have hIs : Is W.heap.size W (.mk k s mn mx [] a c ks) := Is.mono hbW.size (Is.below hbW hC.hi)
  obtain ⟨x0, x1, x2, x3, hl⟩ := four' hIs.1
  subst hl
  have hnv : nv (.mk k [x0, x1, x2, x3] mn mx [] a c ks) = .agg #[.int .i64 k, .int .u64 (x0 : Int), .int .u64 (x1 : Int), .int .u64 (x2 : Int), .int .u64 (x3 : Int), .slice a ks.length c, .int .i64 mn, .int .i64 mx, .string ⟨#[]⟩] := rfl
  rw [hnv]
  clear hnv
  obtain ⟨nl, hnl⟩ : ∃ nl, ks.length = nl := ⟨_, rfl⟩
  rw [hnl]
  obtain ⟨B2, hB2⟩ : ∃ B2, Obj.cells #[.int .i64 k, .int .u64 (x0 : Int), .int .u64 (x1 : Int), .int .u64 (x2 : Int), .int .u64 (x3 : Int), .slice a nl c, .int .i64 mn, .int .i64 mx, .string ⟨#[]⟩] 37 (0, 0) = B2 := ⟨_, rfl⟩
  obtain ⟨B4, hB4⟩ : ∃ B4, Obj.cells #[.int .i64 0, .int .u64 0, .int .u64 0, .int .u64 0, .int .u64 0, .slice none 0 0, .int .i64 0, .int .i64 0, .string ⟨#[]⟩] 37 (0, 0) = B4 := ⟨_, rfl⟩
  have z1 : (W.alloc B2).heap.size = W.heap.size + 1 := by simp
  have l2 : ((W.alloc B2).alloc B4).heap[W.heap.size]? = some B2 := block_alloc (World.alloc_heap_new W B2)
  have l4 : ((W.alloc B2).alloc B4).heap[W.heap.size + 1]? = some B4 := by rw [← z1]; exact World.alloc_heap_new _ B4
  have hB : Below W.heap.size W ((W.alloc B2).alloc B4) := ((Below.refl _ W).alloc (Nat.le_refl _) _).alloc (by simp) _
  obtain ⟨W3, hW3⟩ : ∃ W3, (W.alloc B2).alloc B4 = W3 := ⟨_, rfl⟩
  have z3 : W3.heap.size = W.heap.size + 2 := by rw [← hW3]; simp
  rw [hW3] at l2 l4 hB
  rw [← hB2, ← hB4] at hW3
  rw [← hB2] at l2
  rw [← hB4] at l4
  clear hB2 hB4 z1 B2 B4
  have hS3 := hS.below hB
  have hb3 := hbW.trans (hB.mono hbW.size)
  have hlts := hS.lts
  have HW3 := Lib.hid hW3
  have HB := Lib.hid hB
  have HZ := Lib.hid z3
  obtain ⟨hS4, hM4⟩ := hS3.more (many + 1)
  have hcast : ((many + 1 : Nat) : Int) = (many : Int) + 1 := by omega
  have hwr : IntKind.i64.wrap ((many : Int) + 1) = (many : Int) + 1 := by rw [IntKind.wrap_i64]; have := hC.hm; omega
  rw [hcast] at hS4 hM4
  obtain ⟨W4, hW4⟩ : ∃ W4, W3.setCell ⟨sp, 1, none⟩ (.int .i64 ((many : Int) + 1)) = W4 := ⟨_, rfl⟩
  rw [hW4] at hS4 hM4
  have hzsp := (hlts sp (by simp)).2
  have l24 := (hM4.block _ (block_lt l2) (by simp; omega)).trans l2
  have l44 := (hM4.block _ (block_lt l4) (by simp; omega)).trans l4
  have hb04 : Below w0.heap.size w0 W4 := hb3.trans (hM4.toBelow (by have := hb3.size; omega) (by intro q hq; simp at hq; subst hq; exact hS.hb))
  obtain ⟨hs4, hkc, hcm, hno, hrd, _, hall⟩ := Is.below hb04 hC.hi
  have hcl := clone_n a ks nl c W4 hnl (by have h1 := szs_len ks; have h2 := hC.hz; simp only [sz] at h2; omega) (fun h => ⟨hno h, by have := hno h; omega⟩) (goods_len hall) hrd
  have hM34 : Mod (So sp pa pn pc) W W4 := (Mod.of_below hB _).trans hM4 (fun q hq => .inl (by simp at hq; simp [hq]))
  have hnl6 : nl ≤ 600 := by have h1 := szs_len ks; have h2 := hC.hz; simp only [sz] at h2; omega
  have HCl := Lib.hid hcl
  have HI := Lib.hid hC.hi
  have H44 := Lib.hid l44
  have H24 := Lib.hid l24
  have HW4 := Lib.hid hW4
  have HS4 := Lib.hid hS4
  have HM34 := Lib.hid hM34
  have HS := Lib.hid hS
  have H04 := Lib.hid hb04
  have HK := Lib.hid (And.intro hnl (goods_len hall))
  have HC := Lib.hid hC
  have HR := Lib.hid (And.intro hR0 (And.intro hRs hRm))
  have HSp := Lib.hid hsp
  have HZ4 := Lib.hid hM4.size
  obtain ⟨_, c1, _, c3⟩ := hS3.cell
  have hfs := hS3.frz 1
  have u0 := (nd_cells l2).1
  have u5 : W4.cell? ⟨W.heap.size, 5, none⟩ = some (.slice a nl c) := cell_block l24 5
  have hke : (k == 5) = false := by simpa using hk
  have hkd : decide (k = 5) = false := by simpa using hk
  have hgt : ¬ (24 : Int) < (lv : Int) := by omega
  have hm6 : ((many : Int) == 600) = false := by simp; omega
  have hm6d : decide ((many : Int) = 600) = false := by simp; omega
  clear hres hRd hR0 hRs hRm hsp hC hcl hIs hbW hS hS3 hS4 hM4 hM34 l2 l4 l24 l44 hb3 hb04 hs4 hkc hcm hno hrd hall hB hW3 hW4 z3 hnl
  go_enter Tryd.func64, Tryd.ntmps64
  go_upto_region 1 with (fail)
  rw [HW3.out]
  go_upto_region 12 with (fail)
  rw [HW4.out]
  clear u0 c1 c3 hfs
  go_wp2_with fail
  with_reducible refine HCl.out.mono ?_
  rintro e w4 ⟨a4, c4, rfl, own4, hb4⟩
  have h2 := (hb4.block _ (block_lt H24.out)).trans H24.out
  have k5 := cell_block (i := 5) (show _ = some (Obj.cells _ _ _) from h2)
  have f5 := frozen_block (show _ = some (Obj.cells _ _ (0, 0)) from h2) 5
  simp only [List.getElem?_toArray, List.getElem?_cons_zero, List.getElem?_cons_succ] at k5
  have h2s := block_setCell (i := 5) (show _ = some (Obj.cells _ _ _) from h2) (.slice a4 nl c4)
  simp only [List.setIfInBounds_toArray, List.set_cons_succ, List.set_cons_zero] at h2s
  have m5 := (Mod.refl [W.heap.size] w4).setCell (p := ⟨W.heap.size, 5, none⟩) (.inl (by simp)) (.slice a4 nl c4)
  have hz3 := HZ.out
  have hz4 := HZ4.out
  have hz45 := hb4.size
  have own5 := own_mod own4 m5 (fun q hq => by have := (own4.lt q hq).1; simp; omega)
  have hspl := HS.out.lts
  have hS5 : SpS w0.heap.size (w4.setCell ⟨W.heap.size, 5, none⟩ (.slice a4 nl c4)) sp p (many + 1) .nilIface path pa pn pc := (HS4.out.below hb4).mod m5 (fun b hb hq => by simp at hb; subst hb; have := (hspl _ hq).2; omega)
  have hM5 : Mod (So sp pa pn pc) W (w4.setCell ⟨W.heap.size, 5, none⟩ (.slice a4 nl c4)) := (HM34.out.below hb4).trans m5 (fun q hq => .inr (by simp at hq; omega))
  have hb05 : Below w0.heap.size w0 (w4.setCell ⟨W.heap.size, 5, none⟩ (.slice a4 nl c4)) := (H04.out.trans (hb4.mono H04.out.size)).trans (m5.toBelow (by have := H04.out.size; omega) (by have := HC.out.hb.size; simp; exact this))
  have h4 := (m5.block _ (by have := block_lt H44.out; omega) (by simp)).trans ((hb4.block _ (block_lt H44.out)).trans H44.out)
  obtain ⟨W5, hW5⟩ : ∃ W5, w4.setCell ⟨W.heap.size, 5, none⟩ (.slice a4 nl c4) = W5 := ⟨_, rfl⟩
  have hz5 := m5.size
  rw [hW5] at own5 hS5 hM5 hb05 h4 h2s hz5
  have hrow5 : ∀ q, (Value.slice a4 nl c4).ownBlock = some q → W4.heap.size ≤ q ∧ q < W5.heap.size := fun q hq => own5.lt q hq
  have k5' := cell_block (i := 5) (show _ = some (Obj.cells _ _ _) from h2s)
  simp only [List.getElem?_toArray, List.getElem?_cons_zero, List.getElem?_cons_succ] at k5'
  have HO5 := Lib.hid own5
  have HB5 := Lib.hid hb05
  have H45 := Lib.hid h4
  have H25 := Lib.hid h2s
  have HS5 := Lib.hid hS5
  have HM5 := Lib.hid hM5
  have HRow := Lib.hid hrow5
  have HZ5 := Lib.hid (And.intro hz45 hz5)
  have HW5 := Lib.hid hW5
  clear own4 hb4 h2 h2s m5 hz3 hz4 hz45 hz5 own5 hS5 hM5 hb05 h4 hW5 u5 hrow5 hspl
  go_upto_region 13 with (fail)
  rw [HW5.out]
  clear k5 f5
  go_wp2_with fail
  clear k5'
  go_loopw [58] (fun i wx => ∃ j : Nat, j ≤ nl ∧ i = .int .i64 (j : Int) ∧ SpL E w0.heap.size sp p W4.heap.size ks a4 nl c4 path pa pn pc R W5 j wx) (fun i _ => nl - (intOf i).toNat)
  case atStart =>
    refine ⟨0, Nat.zero_le _, rfl, ⟨[], pa, pc, rfl, fun _ => by rw [HR.out.1]; rfl, HO5.out, by simp, ?_, Fr.refl _ _⟩, Mod.refl _ _⟩
    rw [HR.out.1]
    exact HS5.out
  case round =>
    obtain ⟨j, hj, rfl, ⟨ms, pa', pc', hml, hme, hown, hmk, hSj, hFj⟩, hM⟩ := hrel
    have hz3 := HZ.out
    have hz4 := HZ4.out
    have hz5 := HZ5.out
    have hspl := HS.out.lts
    have hgrow : ∀ q, (Value.slice a4 nl c4).ownBlock = some q → W4.heap.size ≤ q ∧ q < W5.heap.size := HRow.out
    have hnoS : ∀ i, i = W.heap.size ∨ i = W.heap.size + 1 → i ∉ (Value.slice a4 nl c4).ownBlock.toList ++ So sp pa pn pc := fun i hi hq => by
      rcases List.mem_append.1 hq with hq | hq
      · have := (hgrow i (by simpa using hq)).1; omega
      · have := (hspl i hq).2; omega
    have hbw : Below w0.heap.size w0 wr := HB5.out.trans (hM.toBelow HB5.out.size (fun q hq => by
      rcases List.mem_append.1 hq with hq | hq
      · have := (hgrow q (by simpa using hq)).1; have := H04.out.size; omega
      · exact (hspl q hq).1))
    have h4 := (hM.block _ (block_lt H45.out) (hnoS _ (.inr rfl))).trans H45.out
    have h2 := (hM.block _ (block_lt H25.out) (hnoS _ (.inl rfl))).trans H25.out
    have hzr := hM.size
    by_cases hjl : j < nl
    · have hjk : j < ks.length := by rw [HK.out.1]; exact hjl
      obtain ⟨g, rfl, hg3, hglt⟩ := own_some' hown (by omega)
      have hgr := hgrow g rfl
      have hin : ks[j] ∈ ks := List.getElem_mem hjk
      have hdr : ks.drop j = ks[j] :: ks.drop (j + 1) := (List.getElem_cons_drop hjk).symm
      have hlist : ms.flatMap cells ++ (ks.drop j).flatMap cells = ms.flatMap cells ++ cells ks[j] ++ (ks.drop (j + 1)).flatMap cells := by rw [hdr, List.flatMap_cons, List.append_assoc]
      have hown2 := hown
      rw [hlist] at hown2
      have hms : ∀ x ∈ ms, x.set.length = 4 := fun x hx => (hmk x hx).1.len
      have hpl : (ms.flatMap cells).length = j * 9 := by rw [flat_len ms hms, hml]
      have hI0 : Is w0.heap.size w0 ks[j] := Is.all HI.out.2.2.2.2.2.2 _ hin
      have hgd : good ks[j] := goods_mem HC.out.hg.2 _ hin
      have hset := HK.out.2 _ hin
      have hcel : ∀ i x, (cells ks[j])[i]? = some x → wr.cell? ⟨g, j * 9 + i, none⟩ = some x := fun i x hi => by
        obtain ⟨b', o', he, hc'⟩ := (Rd.own hown2) (j * 9 + i) x (by
          rw [List.append_assoc, List.getElem?_append_right (by omega), hpl, Nat.add_sub_cancel_left, List.getElem?_append_left (List.getElem?_eq_some_iff.1 hi).1]
          exact hi)
        simp only [Option.some.injEq, Addr.mk.injEq, and_true] at he
        obtain ⟨rfl, rfl⟩ := he
        simpa using hc'
      -- what this kid is spread to
      obtain ⟨r, hr⟩ : ∃ r : Int × Nat × Nd, r = if (R j).1 = 0 then spr B f path (lv + 1) (R j).2.1 (er ks[j]) else ((R j).1, (R j).2.1, nil0) := ⟨_, rfl⟩
      have hRj := HR.out.2.1 j hjk
      have hR1 : (R (j + 1)).1 = r.1 := by rw [hRj, hr]; split <;> rfl
      have hR2 : (R (j + 1)).2.1 = r.2.1 := by rw [hRj, hr]; split <;> rfl
      have hR3 : (R (j + 1)).1 = 0 → (R j).1 = 0 ∧ (R (j + 1)).2.2 = (R j).2.2 ++ [r.2.2] := fun h0 => by
        rw [hRj] at h0 ⊢
        by_cases hz : (R j).1 = 0
        · rw [if_pos hz] at h0 ⊢
          rw [hr, if_pos hz]
          exact ⟨hz, rfl⟩
        · rw [if_neg hz] at h0
          exact absurd h0 hz
      have hxk : ∀ W8, Below w0.heap.size w0 W8 → SpS w0.heap.size W8 sp p (R j).2.1 (ee E (R j).1) path pa' pn pc' → Calls Tryd.prog 64 #[.pointer (some ⟨sp, 0, none⟩), nv ks[j], .int .i64 ((lv : Int) + 1)] W8 (SpP E w0.heap.size sp p r path pa' pn pc' W8) := fun W8 hb8 hs8 => by
        by_cases hz : (R j).1 = 0
        · rw [hr, if_pos hz]
          rw [hz] at hs8
          have hlv1 : ((lv + 1 : Nat) : Int) = (lv : Int) + 1 := by omega
          have := HSp.out path (lv + 1) (R j).2.1 ks[j] W8 pa' pn pc' ⟨hb8, hs8, HC.out.nd, HC.out.hp, by omega, HR.out.2.2 j, by have := HC.out.hf; omega, hI0, hgd, by have h1 := szs_mem hin; have h2 := HC.out.hz; simp only [sz] at h2; omega⟩
          rw [hlv1] at this
          exact this
        · rw [hr, if_neg hz]
          have hev : ee E (R j).1 = .iface 204 (.pointer (some (E (Er.egs.getD ((R j).1.toNat - 1) 0)))) := by unfold ee; rw [if_neg hz]; rfl
          have hs9 := hs8
          rw [hev] at hs8
          obtain ⟨kid, hkd⟩ : ∃ kid, ks[j] = kid := ⟨_, rfl⟩
          rw [hkd] at hset ⊢
          obtain ⟨kk, ksx, kmn, kmx, kt, ka, kc, kks⟩ := kid
          refine (spread_err E w0.heap.size sp p _ path pa' pn pc' _ ((lv : Int) + 1) W8 hs8 hset).mono fun e w' ⟨h1, h2⟩ => ?_
          exact ⟨nil0, pa', pc', h1, hs9.below h2, fun h => absurd h hz, is_nil0 _ _, bl_nil0 _, Mod.of_below h2 _, Fr.refl _ _⟩
      obtain ⟨kid, hkd⟩ : ∃ kid, ks[j] = kid := ⟨_, rfl⟩
      rw [hkd] at hset hcel hxk
      have hxk : ∀ W8, Below w0.heap.size w0 W8 → SpS w0.heap.size W8 sp p (R j).2.1 (ee E (R j).1) path pa' pn pc' → Calls Tryd.prog 64 #[.pointer (some ⟨sp, 0, none⟩), nv kid, .int .i64 ((lv : Int) + 1)] W8 (SpP E w0.heap.size sp p r path pa' pn pc' W8) := hxk
      obtain ⟨y0, y1, y2, y3, hys⟩ := four' hset
      obtain ⟨kk, ksx, kmn, kmx, kt, ka, kc, kks⟩ := kid
      simp only [Nd.set] at hys
      subst hys
      have q0 := hcel 0 _ rfl
      have q1 := hcel 1 _ rfl
      have q2 := hcel 2 _ rfl
      have q3 := hcel 3 _ rfl
      have q4 := hcel 4 _ rfl
      have q5 := hcel 5 _ rfl
      have q6 := hcel 6 _ rfl
      have q7 := hcel 7 _ rfl
      have q8 := hcel 8 _ rfl
      simp only [Nat.add_zero, Nd.kind, Nd.a, Nd.kids, Nd.cap, Nd.mn, Nd.mx, Nd.text] at q0 q1 q2 q3 q4 q5 q6 q7 q8
      have hnvk : nv (.mk kk [y0, y1, y2, y3] kmn kmx kt ka kc kks) = .agg #[.int .i64 kk, .int .u64 (y0 : Int), .int .u64 (y1 : Int), .int .u64 (y2 : Int), .int .u64 (y3 : Int), .slice ka kks.length kc, .int .i64 kmn, .int .i64 kmx, .string (Str kt)] := rfl
      rw [hnvk] at hxk
      obtain ⟨kl, hkl⟩ : ∃ kl, kks.length = kl := ⟨_, rfl⟩
      rw [hkl] at hxk q5
      obtain ⟨W7, hW7⟩ : ∃ W7, wr.alloc (.cells #[.int .i64 kk, .int .u64 (y0 : Int), .int .u64 (y1 : Int), .int .u64 (y2 : Int), .int .u64 (y3 : Int), .slice ka kl kc, .int .i64 kmn, .int .i64 kmx, .string (Str kt)] 37) = W7 := ⟨_, rfl⟩
      have b7 : Below wr.heap.size wr W7 := by rw [← hW7]; exact (Below.refl _ _).alloc (Nat.le_refl _) _
      have s7 : W7.heap[wr.heap.size]? = some (.cells #[.int .i64 kk, .int .u64 (y0 : Int), .int .u64 (y1 : Int), .int .u64 (y2 : Int), .int .u64 (y3 : Int), .slice ka kl kc, .int .i64 kmn, .int .i64 kmx, .string (Str kt)] 37 (0, 0)) := by rw [← hW7]; exact heap_alloc_new wr _
      have hz7 : W7.heap.size = wr.heap.size + 1 := by rw [← hW7]; simp
      have hS7 := hSj.below b7
      have h27 := (b7.block _ (block_lt h2)).trans h2
      have hsj := hSj.lts
      have hnj : ∀ i, i = W.heap.size ∨ i = wr.heap.size ∨ i = g → i ∉ So sp pa' pn pc' := fun i hi hq => by
        have h1 := (hsj i hq).2
        rcases hFj i hq with h | h
        · have := (hspl i h).2; omega
        · omega
      have skm : ∀ V : World, V.heap[W.heap.size]? = W7.heap[W.heap.size]? → V.heap[wr.heap.size]? = W7.heap[wr.heap.size]? → V.cell? ⟨W.heap.size, 5, none⟩ = some (.slice (some ⟨g, 0, none⟩) nl c4) ∧ (V.cell? ⟨wr.heap.size, 0, none⟩ = some (.int .i64 kk) ∧ V.cell? ⟨wr.heap.size, 1, none⟩ = some (.int .u64 (y0 : Int)) ∧ V.cell? ⟨wr.heap.size, 2, none⟩ = some (.int .u64 (y1 : Int)) ∧ V.cell? ⟨wr.heap.size, 3, none⟩ = some (.int .u64 (y2 : Int)) ∧ V.cell? ⟨wr.heap.size, 4, none⟩ = some (.int .u64 (y3 : Int)) ∧ V.cell? ⟨wr.heap.size, 5, none⟩ = some (.slice ka kl kc) ∧ V.cell? ⟨wr.heap.size, 6, none⟩ = some (.int .i64 kmn) ∧ V.cell? ⟨wr.heap.size, 7, none⟩ = some (.int .i64 kmx) ∧ V.cell? ⟨wr.heap.size, 8, none⟩ = some (.string (Str kt))) := fun V e1 e2 => by
        refine ⟨?_, nd_cells (e2.trans s7)⟩
        rw [cell_block (e1.trans h27)]; rfl
      have hl2 := block_lt h27
      have hl7 := block_lt s7
      have sk := fun (V : World) (hb : Mod (So sp pa' pn pc') W7 V) => skm V (hb.block _ hl2 (hnj _ (.inl rfl))) (hb.block _ hl7 (hnj _ (.inr (.inl rfl))))
      have hgne : W.heap.size ≠ g ∧ wr.heap.size ≠ g := ⟨by omega, by omega⟩
      have skg : ∀ (w8 V : World), Mod (So sp pa' pn pc') W7 w8 → Mod [g] w8 V → V.cell? ⟨W.heap.size, 5, none⟩ = some (.slice (some ⟨g, 0, none⟩) nl c4) ∧ (V.cell? ⟨wr.heap.size, 0, none⟩ = some (.int .i64 kk) ∧ V.cell? ⟨wr.heap.size, 1, none⟩ = some (.int .u64 (y0 : Int)) ∧ V.cell? ⟨wr.heap.size, 2, none⟩ = some (.int .u64 (y1 : Int)) ∧ V.cell? ⟨wr.heap.size, 3, none⟩ = some (.int .u64 (y2 : Int)) ∧ V.cell? ⟨wr.heap.size, 4, none⟩ = some (.int .u64 (y3 : Int)) ∧ V.cell? ⟨wr.heap.size, 5, none⟩ = some (.slice ka kl kc) ∧ V.cell? ⟨wr.heap.size, 6, none⟩ = some (.int .i64 kmn) ∧ V.cell? ⟨wr.heap.size, 7, none⟩ = some (.int .i64 kmx) ∧ V.cell? ⟨wr.heap.size, 8, none⟩ = some (.string (Str kt))) := fun w8 V hb hM => skm V ((hM.block _ (by have := hb.size; omega) (by simp; exact hgne.1)).trans (hb.block _ hl2 (hnj _ (.inl rfl)))) ((hM.block _ (by have := hb.size; omega) (by simp; exact hgne.2)).trans (hb.block _ hl7 (hnj _ (.inr (.inl rfl)))))
      have hxk7 := hxk W7 (hbw.trans (b7.mono hbw.size)) hS7
      have hxk8 := fun V (hb : Below W7.heap.size W7 V) => hxk V ((hbw.trans (b7.mono hbw.size)).trans (hb.mono (by have := hbw.size; omega))) (hS7.below hb)
      have hown7 := own_keep hown2 b7
      have hcell8 : ∀ V, Mod (So sp pa' pn pc') W7 V → ∀ i x, ((cells (.mk kk [y0, y1, y2, y3] kmn kmx kt ka kc kks)))[i]? = some x → V.cell? ⟨g, j * 9 + i, none⟩ = some x := fun V hb i x hi => by
        rw [hb.cell (p := ⟨g, j * 9 + i, none⟩) (by show g < _; omega) (hnj _ (.inr (.inr rfl))), b7.cell (p := ⟨g, j * 9 + i, none⟩) hglt]
        exact hcel i x hi
      have hfr8 : ∀ V, Mod (So sp pa' pn pc') W7 V → ∀ i, V.frozen? ⟨g, i, none⟩ = false := fun V hb i => (own_mod hown7 hb (fun q hq hn => hnj q (.inr (.inr (by simpa [Value.ownBlock] using hq.symm))) hn)).frozenAt i
      have hstep := fun (w8 : World) (m : Nd) (pa'' : Option Addr) (pc'' : Nat) => @SpL.step E w0.heap.size sp p W4.heap.size nl c4 pn pc j ks pa path R wr W5 W7 w8 g ms pa' pa'' pc' pc'' r hml hme hown hmk hSj hFj hM (fun q hq => by have := (hspl q hq).2; omega) hgr.2 (by omega) hjk HK.out.2 b7 hR1 hR2 hR3 m
      have HStep := Lib.hid hstep
      have HSg := Lib.hid skg
      have HXk := Lib.hid hxk8
      have HSk := Lib.hid sk
      have HW7 := Lib.hid hW7
      have HC8 := Lib.hid (And.intro hcell8 hfr8)
      obtain ⟨s0, s1, s2, s3, s4, s5, s6, s7', s8, s9⟩ := sk W7 (Mod.refl _ _)
      have hjl2 : (j : Int) < (nl : Int) := by omega
      have hwl : IntKind.i64.wrap ((lv : Int) + 1) = (lv : Int) + 1 := by rw [IntKind.wrap_i64]; omega
      clear hstep hcell8 hfr8 hown7 hown hown2 hpl hmk hme hml hM b7 hg3 hglt hxk hxk7 hxk8 sk skm skg hgne hl2 hl7 hW7 hnvk hkl hcel hset hkd hI0 hgd hms hlist hdr hin h2 h4 hbw hz3 hz4 hz5 s7 hspl hgrow hnoS hzr hgr hr hRj hR1 hR2 hR3 hz7 hS7 h27 hsj hnj hSj hFj
      go_wp2_with fail
      rw [HW7.out]
      have n0 : Mod (So sp pa' pn pc') W7 W7.drew := (Mod.refl _ _).drew
      have n00 : Below W7.heap.size W7 W7.drew := (Below.refl _ _).drew
      refine wp_region_noPanic ?_
      refine wp_region_held_drew (S := fun V => V.cell? ⟨W.heap.size, 5, none⟩ = some (.slice (some ⟨g, 0, none⟩) nl c4) ∧ (V.cell? ⟨wr.heap.size, 0, none⟩ = some (.int .i64 kk) ∧ V.cell? ⟨wr.heap.size, 1, none⟩ = some (.int .u64 (y0 : Int)) ∧ V.cell? ⟨wr.heap.size, 2, none⟩ = some (.int .u64 (y1 : Int)) ∧ V.cell? ⟨wr.heap.size, 3, none⟩ = some (.int .u64 (y2 : Int)) ∧ V.cell? ⟨wr.heap.size, 4, none⟩ = some (.int .u64 (y3 : Int)) ∧ V.cell? ⟨wr.heap.size, 5, none⟩ = some (.slice ka kl kc) ∧ V.cell? ⟨wr.heap.size, 6, none⟩ = some (.int .i64 kmn) ∧ V.cell? ⟨wr.heap.size, 7, none⟩ = some (.int .i64 kmx) ∧ V.cell? ⟨wr.heap.size, 8, none⟩ = some (.string (Str kt)))) (by kernel_rfl) (HSk.out _ n0) (fun hHeld => ?_)
      (refine wpAnyH_take (i := 0) (v := ?v0n1) (by simp only [List.getElem?_toArray, List.getElem?_cons_succ, List.getElem?_cons_zero]; rfl) (by kernel_rfl) (by kernel_rfl) (by kernel_rfl) (fun _ _ _ h => False.elim h) (Or.inl ⟨by rfl, ?hy0n1⟩) (by assumption) ?rest0n1; (case hy0n1 => (intro w hSw; (try dsimp only at hSw); go_simp; (try with_reducible rfl))); (try simp only [Act.put, List.setIfInBounds_toArray, List.set_cons_zero, List.set_cons_succ]))
      (refine wpAnyH_take (i := 1) (v := ?v1n2) (by simp only [List.getElem?_toArray, List.getElem?_cons_succ, List.getElem?_cons_zero]; rfl) (by kernel_rfl) (by kernel_rfl) (by kernel_rfl) (fun _ _ _ h => False.elim h) (Or.inl ⟨by rfl, ?hy1n2⟩) (by assumption) ?rest1n2; (case hy1n2 => (intro w hSw; (try dsimp only at hSw); go_simp; (try with_reducible rfl))); (try simp only [Act.put, List.setIfInBounds_toArray, List.set_cons_zero, List.set_cons_succ]))
      (refine wpAnyH_take (i := 2) (v := ?v2n3) (by simp only [List.getElem?_toArray, List.getElem?_cons_succ, List.getElem?_cons_zero]; rfl) (by kernel_rfl) (by kernel_rfl) (by kernel_rfl) (fun _ _ _ h => False.elim h) (Or.inl ⟨by rfl, ?hy2n3⟩) (by assumption) ?rest2n3; (case hy2n3 => (intro w hSw; (try dsimp only at hSw); go_simp; (try with_reducible rfl))); (try simp only [Act.put, List.setIfInBounds_toArray, List.set_cons_zero, List.set_cons_succ]))
      (refine wpAnyH_take (i := 3) (v := ?v3n4) (by simp only [List.getElem?_toArray, List.getElem?_cons_succ, List.getElem?_cons_zero]; rfl) (by kernel_rfl) (by kernel_rfl) (by kernel_rfl) (fun _ _ _ h => False.elim h) (Or.inl ⟨by rfl, ?hy3n4⟩) (by assumption) ?rest3n4; (case hy3n4 => (intro w hSw; (try dsimp only at hSw); go_simp; (try with_reducible rfl))); (try simp only [Act.put, List.setIfInBounds_toArray, List.set_cons_zero, List.set_cons_succ]))
      (refine wpAnyH_take (i := 4) (v := ?v4n5) (by simp only [List.getElem?_toArray, List.getElem?_cons_succ, List.getElem?_cons_zero]; rfl) (by kernel_rfl) (by kernel_rfl) (by kernel_rfl) (fun _ _ _ h => False.elim h) (Or.inl ⟨by rfl, ?hy4n5⟩) (by assumption) ?rest4n5; (case hy4n5 => (intro w hSw; (try dsimp only at hSw); go_simp; (try with_reducible rfl))); (try simp only [Act.put, List.setIfInBounds_toArray, List.set_cons_zero, List.set_cons_succ]))
      (refine wpAnyH_take (i := 5) (v := ?v5n6) (by simp only [List.getElem?_toArray, List.getElem?_cons_succ, List.getElem?_cons_zero]; rfl) (by kernel_rfl) (by kernel_rfl) (by kernel_rfl) (fun _ _ _ h => False.elim h) (Or.inl ⟨by rfl, ?hy5n6⟩) (by assumption) ?rest5n6; (case hy5n6 => (intro w hSw; (try dsimp only at hSw); go_simp; (try with_reducible rfl))); (try simp only [Act.put, List.setIfInBounds_toArray, List.set_cons_zero, List.set_cons_succ]))
      (refine wpAnyH_take (i := 6) (v := ?v6n7) (by simp only [List.getElem?_toArray, List.getElem?_cons_succ, List.getElem?_cons_zero]; rfl) (by kernel_rfl) (by kernel_rfl) (by kernel_rfl) (fun _ _ _ h => False.elim h) (Or.inl ⟨by rfl, ?hy6n7⟩) (by assumption) ?rest6n7; (case hy6n7 => (intro w hSw; (try dsimp only at hSw); go_simp; (try with_reducible rfl))); (try simp only [Act.put, List.setIfInBounds_toArray, List.set_cons_zero, List.set_cons_succ]))
      (refine wpAnyH_ready (rs := [7]) (by kernel_rfl) (by simp) ?_; refine AllReadyH.cons (o := _) (by simp only [List.getElem?_toArray, List.getElem?_cons_succ, List.getElem?_cons_zero]; rfl) (fun K hK => ?_) AllReadyH.nil; go_simp; ((with_reducible refine (HXk.out _ n00).mono ?_); rintro e w8 ⟨m, pa'', pc'', rfl, t1, t2, t3, t4, t5, t6⟩; have n1 := n0.trans t5 (fun q hq => .inl hq)); refine hK.out _ _ (by exact HSk.out _ n1) (fun hHeld => ?_); clear hK K; (try simp only [Act.put, List.setIfInBounds_toArray, List.set_cons_zero, List.set_cons_succ]))
      obtain ⟨v0, v1, v2, v3, hvs⟩ := four' t3.len
      obtain ⟨k', mn', mx', a', nl', c', t', hnv, hcl⟩ := nv_explicit hvs
      have HS8 := Lib.hid (HStep.out w8 m pa'' pc'' t1 t2 t3 t4 n1 t6 _ _ _ _ _ _ _ _ _ hcl)
      have p0 := HC8.out.1 w8 n1 0 _ rfl
      have p1 := HC8.out.1 w8 n1 1 _ rfl
      have p2 := HC8.out.1 w8 n1 2 _ rfl
      have p3 := HC8.out.1 w8 n1 3 _ rfl
      have p4 := HC8.out.1 w8 n1 4 _ rfl
      have p5 := HC8.out.1 w8 n1 5 _ rfl
      have p6 := HC8.out.1 w8 n1 6 _ rfl
      have p7 := HC8.out.1 w8 n1 7 _ rfl
      have p8 := HC8.out.1 w8 n1 8 _ rfl
      simp only [Nat.add_zero] at p0
      have f0 := HC8.out.2 w8 n1 (j * 9)
      have f1 := HC8.out.2 w8 n1 (j * 9 + 1)
      have f2 := HC8.out.2 w8 n1 (j * 9 + 2)
      have f3 := HC8.out.2 w8 n1 (j * 9 + 3)
      have f4 := HC8.out.2 w8 n1 (j * 9 + 4)
      have f5 := HC8.out.2 w8 n1 (j * 9 + 5)
      have f6 := HC8.out.2 w8 n1 (j * 9 + 6)
      have f7 := HC8.out.2 w8 n1 (j * 9 + 7)
      have f8 := HC8.out.2 w8 n1 (j * 9 + 8)
      simp only [hnv]
      clear hnv hcl hvs t1 t2 t3 t4 t5 t6
      (refine wpAnyH_take (i := 8) (v := ?v8n8) (by simp only [List.getElem?_toArray, List.getElem?_cons_succ, List.getElem?_cons_zero]; rfl) (by kernel_rfl) (by kernel_rfl) (by kernel_rfl) (fun _ _ _ h => False.elim h) (Or.inl ⟨by rfl, ?hy8n8⟩) (by assumption) ?rest8n8; (case hy8n8 => (intro w hSw; (try dsimp only at hSw); go_simp; (try with_reducible rfl))); (try simp only [Act.put, List.setIfInBounds_toArray, List.set_cons_zero, List.set_cons_succ]))
      (refine wpAnyH_ready (rs := [9]) (by kernel_rfl) (by simp) ?_; refine AllReadyH.cons (o := _) (by simp only [List.getElem?_toArray, List.getElem?_cons_succ, List.getElem?_cons_zero]; rfl) (fun K hK => ?_) AllReadyH.nil; go_simp; (skip); refine hK.out _ _ (by (refine HSg.out w8 _ n1 ?_; exact put9o_mod w8 g (j * 9) (.int .i64 k') (.int .u64 (v0 : Int)) (.int .u64 (v1 : Int)) (.int .u64 (v2 : Int)) (.int .u64 (v3 : Int)) (.slice a' nl' c') (.int .i64 mn') (.int .i64 mx') (.string (Str t')))) (fun hHeld => ?_); clear hK K; (try simp only [Act.put, List.setIfInBounds_toArray, List.set_cons_zero, List.set_cons_succ]))
      refine wpAnyH_done (by kernel_rfl) ?_ _
      refine NoPanic.normal ?_
      go_wp2
      go_roundw
      case rel => exact ⟨j + 1, by omega, by go_num, HS8.out⟩
      case measure => simp [intOf]; omega
    · obtain rfl : j = nl := by omega
      have hdrop : ks.drop j = [] := List.drop_eq_nil_of_le (by rw [HK.out.1]; exact Nat.le_refl _)
      rw [hdrop, List.flatMap_nil, List.append_nil] at hown
      obtain ⟨u0, u1, u2, u3, u4, u5, u6, u7, u8⟩ := nd_cells h2
      obtain ⟨d0, d1, d2, d3, d4, d5, d6, d7, d8⟩ := nd_cells h4
      obtain ⟨f0, f1, f2, f3, f4, f5, f6, f7, f8⟩ := frz9 h4
      have hpb := put9_block h4 (.int .i64 k) (.int .u64 (x0 : Int)) (.int .u64 (x1 : Int)) (.int .u64 (x2 : Int)) (.int .u64 (x3 : Int)) (.slice a4 j c4) (.int .i64 mn) (.int .i64 mx) (.string ⟨#[]⟩)
      have hpm := put9_mod wr (W.heap.size + 1) (.int .i64 k) (.int .u64 (x0 : Int)) (.int .u64 (x1 : Int)) (.int .u64 (x2 : Int)) (.int .u64 (x3 : Int)) (.slice a4 j c4) (.int .i64 mn) (.int .i64 mx) (.string ⟨#[]⟩)
      have hsj := hSj.lts
      have hgs : ∀ q, (Value.slice a4 j c4).ownBlock = some q → q ∉ So sp pa' pn pc' := fun q hq hn => by
        have h1 := hgrow q hq
        rcases hFj q hn with h | h
        · have := (hspl q h).2; omega
        · omega
      have hgw : Gw 37 (W.heap.size + 1) k x0 x1 x2 x3 mn mx [] ms a4 j c4 (put9 wr (W.heap.size + 1) (.int .i64 k) (.int .u64 (x0 : Int)) (.int .u64 (x1 : Int)) (.int .u64 (x2 : Int)) (.int .u64 (x3 : Int)) (.slice a4 j c4) (.int .i64 mn) (.int .i64 mx) (.string ⟨#[]⟩)) := by
        refine ⟨hml, hpb, ?_, fun x hx => ?_⟩
        · have := own_mod hown hpm (fun q hq => by have := (hgrow q hq).1; simp; omega)
          exact own_base this (by omega)
        · obtain ⟨e1, e2⟩ := hmk x hx
          exact ⟨Is.mono hpm.size (Is.modB hpm e1 (e2.mono fun q hq => by simp; omega)), e2.mono fun q hq => ⟨by omega, hq.2.1⟩⟩
      have hre : SpP E w0.heap.size sp p ((R j).1, (R j).2.1, .mk k [x0, x1, x2, x3] mn mx [] none 0 (R j).2.2) path pa pn pc W (.returned (.agg (nd9 k x0 x1 x2 x3 a4 j c4 mn mx []))) (put9 wr (W.heap.size + 1) (.int .i64 k) (.int .u64 (x0 : Int)) (.int .u64 (x1 : Int)) (.int .u64 (x2 : Int)) (.int .u64 (x3 : Int)) (.slice a4 j c4) (.int .i64 mn) (.int .i64 mx) (.string ⟨#[]⟩)) := by
        refine ⟨.mk k [x0, x1, x2, x3] mn mx [] a4 c4 ms, pa', pc', by rw [hgw.val], hSj.mod hpm (fun b hb hq => ?_), fun h0 => by simp only [er, ers_map, hme h0], hgw.node.1, ⟨fun q hq hne => ⟨?_, fun e => ?_⟩, Bls.of fun x hx => (hmk x hx).2.mono fun q hq => ⟨by omega, hq.2.2⟩⟩, ?_, fun q hq => ?_⟩
        · simp only [List.mem_singleton] at hb
          subst hb
          rcases hFj _ hq with h | h
          · have := (hspl _ h).2; omega
          · omega
        · have := (hgrow q.block (by rw [hq]; rfl)).1; omega
        · exact hgs q.block (by rw [hq]; rfl) (List.mem_cons_of_mem _ (by simp [e]))
        · refine ((HM5.out.trans hM (fun q hq => ?_)).trans hpm (fun q hq => .inr (by simp at hq; omega)))
          rcases List.mem_append.1 hq with hq | hq
          · exact .inr (by have := (hgrow q (by simpa using hq)).1; omega)
          · exact .inl hq
        · rcases hFj q hq with h | h
          · exact .inl h
          · exact .inr (by omega)
      have HRe := Lib.hid hre
      have HPb := Lib.hid hpb
      have hjl2 : ¬ (j : Int) < (j : Int) := by omega
      clear hre hpb hpm hgw hown hmk hme hml hM hSj hFj hsj hgs hbw h2 h4 hdrop hspl hgrow hnoS hzr hz3 hz4 hz5
      go_wp2
      ((try simp only [Exit.inBlock, Exit.then]); refine bodyPost_ret (results_cell_row rfl _ _ (W.heap.size + 1) 37 _ (0, 0) _ rfl (HPb.out) Tryd.underlying37 rfl ?hi5) rfl ?_; (case hi5 => kernel_rfl))
      exact HRe.out
end Bo
end Go.Proofs.YteekonojmpihlaaDoor
