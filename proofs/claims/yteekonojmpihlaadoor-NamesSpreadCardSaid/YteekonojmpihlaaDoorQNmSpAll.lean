import Derived.Test.YteekonojmpihlaaDoorQNmSpread
/- Package names: Spread. Condition: the sentinels read as laid. -/
namespace Go.Proofs.YteekonojmpihlaaDoor
namespace Kt
end Kt
namespace St
end St
namespace Sp
end Sp
namespace Bk
end Bk
namespace Tr
end Tr
open Go Go.RowKit Kt St Sp Bk Tr
namespace Bo
theorem spread_all (E : Nat → Addr) (w0 : World) (sp p : Nat) (L X : List Nat) (B : Bks) (hbk : BK w0 p L X B) (hse : Sent 204 w0 E Er.egs) :
    ∀ (f : Nat) (path : List (List UInt8)) (lv many : Nat) (n : Nd) (W : World) (pa : Option Addr) (pn pc : Nat), SpC w0 B sp p f path lv many n W pa pn pc → Calls Tryd.prog 64 #[.pointer (some ⟨sp, 0, none⟩), nv n, .int .i64 (lv : Int)] W (SpP E w0.heap.size sp p (spr B f path lv many (er n)) path pa pn pc W) := by
  intro f
  induction f with
  | zero => intro path lv many n W pa pn pc hC; exact absurd hC.hf (Nat.not_lt_zero _)
  | succ f ih =>
    intro path lv many n W pa pn pc hC
    obtain ⟨k, s, mn, mx, t, a, c, ks⟩ := n
    by_cases hk : k = 5
    · exact spread_name E w0 sp p f L X B hbk hse path lv many W pa pn pc hC hk ih
    · by_cases h24 : 24 < lv
      · exact spread_deep E w0 sp p f L X B hbk hse path lv many W pa pn pc hC hk h24
      · by_cases h6 : 600 ≤ many
        · exact spread_many E w0 sp p f L X B hbk hse path lv many W pa pn pc hC hk h24 h6
        · exact spread_node E w0 sp p f L X B hbk hse path lv many W pa pn pc hC hk h24 h6 ih
theorem drew_at {W : World} {i : Nat} {o : Option Obj} (h : W.heap[i]? = o) : W.drew.heap[i]? = o := h
def shE (B : Bks) (n : Nd) : Int := if rgt n = false then 4 else (spr B 64 [] 1 0 (er n)).1
/-- What Spread answers. -/
def ShP (E : Nat → Addr) (B : Bks) (n : Nd) (w : World) (e : Ending) (w' : World) : Prop := ∃ m, e = .returned (.tuple #[nv m, ee E (shE B n)]) ∧ (shE B n = 0 → er m = (spr B 64 [] 1 0 (er n)).2.2) ∧ (shE B n ≠ 0 → m = nil0) ∧ Is w'.heap.size w' m ∧ Bl (w.heap.size ≤ ·) m ∧ Below w.heap.size w w'
set_option maxRecDepth 100000 in
set_option maxHeartbeats 1000000 in
theorem Spread_c (E : Nat → Addr) (p : Nat) (L X : List Nat) (B : Bks) (n : Nd) (ht : ∀ y ∈ walk n, y.1.text.length ≤ 9223372036854775807) (w : World) (hIs : Is w.heap.size w n) (h : BK w p L X B) (hse : Sent 204 w E Er.egs) :
    Calls Tryd.prog 24 #[.pointer (some ⟨p, 0, none⟩), nv n] w (ShP E B n w) := by
  obtain ⟨x0, x1, x2, x3, hx⟩ := four' hIs.len
  obtain ⟨k, mn, mx, a, nl, cc, t, hnv, _⟩ := nv_explicit hx
  obtain ⟨B2, hB2⟩ : ∃ B2, Obj.cells #[.int .i64 k, .int .u64 (x0 : Int), .int .u64 (x1 : Int), .int .u64 (x2 : Int), .int .u64 (x3 : Int), .slice a nl cc, .int .i64 mn, .int .i64 mx, .string (Str t)] 37 (0, 0) = B2 := ⟨_, rfl⟩
  obtain ⟨B4, hB4⟩ : ∃ B4, Obj.cells #[.int .i64 0, .int .u64 0, .int .u64 0, .int .u64 0, .int .u64 0, .slice none 0 0, .int .i64 0, .int .i64 0, .string ⟨#[]⟩] 37 (0, 0) = B4 := ⟨_, rfl⟩
  have z1 : (w.alloc B2).heap.size = w.heap.size + 1 := by simp
  have l2 : ((w.alloc B2).alloc B4).heap[w.heap.size]? = some B2 := block_alloc (World.alloc_heap_new w B2)
  have l4 : ((w.alloc B2).alloc B4).heap[w.heap.size + 1]? = some B4 := by rw [← z1]; exact World.alloc_heap_new _ B4
  have hB : Below w.heap.size w ((w.alloc B2).alloc B4) := ((Below.refl _ w).alloc (Nat.le_refl _) _).alloc (by simp) _
  obtain ⟨W3, hW3⟩ : ∃ W3, (w.alloc B2).alloc B4 = W3 := ⟨_, rfl⟩
  have z3 : W3.heap.size = w.heap.size + 2 := by rw [← hW3]; simp
  rw [hW3] at l2 l4 hB
  rw [← hB2, ← hB4] at hW3
  rw [← hB2] at l2
  rw [← hB4] at l4
  clear hB2 hB4 z1 B2 B4
  have hrt := right_c n ht W3 (Is.mono hB.size (Is.below hB hIs))
  rw [hnv] at hrt ⊢
  have HW3 := Lib.hid hW3
  have HB := Lib.hid hB
  have HZ := Lib.hid z3
  have H2 := Lib.hid l2
  have H4 := Lib.hid l4
  have HK := Lib.hid (And.intro h (And.intro hse hIs))
  have HNv := Lib.hid hnv
  obtain ⟨u0, u1, u2, u3, u4, u5, u6, u7, u8⟩ := nd_cells l2
  cases hr : rgt n with
  | false =>
    have hsh : shE B n = 4 := by rw [shE, if_pos hr]
    rw [hr] at hrt
    have HRt := Lib.hid hrt
    have hfin : ∀ w', Below w.heap.size w w' → ShP E B n w (.returned (.tuple #[nv nil0, ee E 4])) w' := fun w' h1 =>
      ⟨nil0, by rw [hsh], (fun h => by rw [hsh] at h; cases h), fun _ => rfl, is_nil0 _ _, bl_nil0 _, h1⟩
    obtain ⟨ev, hev⟩ : ∃ v, ee E 4 = .iface 204 (.pointer (some v)) := ⟨_, rfl⟩
    rw [hev] at hfin
    have HEv := Lib.hid hev
    have HF := Lib.hid hfin
    clear hfin hev hrt hr hsh l2 l4 hB z3 hW3 hIs h hse hnv hx ht
    go_enter Tryd.func24, Tryd.ntmps24
    go_upto_region 1 with (fail)
    rw [HW3.out]
    go_wp2_with fail
    with_reducible refine HRt.out.mono ?_
    rintro e w4 ⟨rfl, hb4⟩
    have hBB := HB.out.trans (hb4.mono HB.out.size)
    have gl : w4.cell? ⟨1, 0, none⟩ = some (ee E 4) := sentc (HK.out.2.1.keep hBB) 4 (by decide) (by decide)
    rw [HEv.out] at gl
    have hgc : w.cell? ⟨1, 0, none⟩ = some (ee E 4) := sentc HK.out.2.1 4 (by decide) (by decide)
    have hgs : 1 < w.heap.size := Kt.lt_of_cell hgc
    clear hgc
    have hz0 : ¬ w.heap.size = 0 := by omega
    have hne1 : ¬ w.heap.size + 1 = 1 := by omega
    have hne2 : ¬ 1 = w.heap.size + 1 := by omega
    have l44 := (hb4.block _ (block_lt H4.out)).trans H4.out
    obtain ⟨d0, d1, d2, d3, d4, d5, d6, d7, d8⟩ := nd_cells l44
    obtain ⟨f0, f1, f2, f3, f4, f5, f6, f7, f8⟩ := frz9 l44
    have hpb := put9_block l44 (.int .i64 0) (.int .u64 0) (.int .u64 0) (.int .u64 0) (.int .u64 0) (.slice none 0 0) (.int .i64 0) (.int .i64 0) (.string ⟨#[]⟩)
    have hpm := put9_mod w4 (w.heap.size + 1) (.int .i64 0) (.int .u64 0) (.int .u64 0) (.int .u64 0) (.int .u64 0) (.slice none 0 0) (.int .i64 0) (.int .i64 0) (.string ⟨#[]⟩)
    have hre := HF.out _ ((hBB.trans (hpm.toBelow hBB.size (by simp))).drew)
    have HRe := Lib.hid hre
    have HPb := Lib.hid (show (put9 w4 (w.heap.size + 1) (.int .i64 0) (.int .u64 0) (.int .u64 0) (.int .u64 0) (.int .u64 0) (.slice none 0 0) (.int .i64 0) (.int .i64 0) (.string ⟨#[]⟩)).drew.heap[w.heap.size + 1]? = some (.cells #[.int .i64 0, .int .u64 0, .int .u64 0, .int .u64 0, .int .u64 0, .slice none 0 0, .int .i64 0, .int .i64 0, .string ⟨#[]⟩] 37 (0, 0)) from drew_at hpb)
    clear hre hpb hpm l44 hb4 hBB u0 u1 u2 u3 u4 u5 u6 u7 u8
    go_upto_region 2 with (fail)
    go_region
    go_wp2
    ((try simp only [Exit.inBlock, Exit.then]); refine bodyPost_ret (Kt.results_cell2_row rfl _ _ (w.heap.size + 1) 37 _ (0, 0) _ rfl (HPb.out) Tryd.underlying37 rfl ?hi1) rfl ?_; (case hi1 => kernel_rfl))
    exact HRe.out
  | true =>
    rw [hr] at hrt
    have HRt := Lib.hid hrt
    have HR := Lib.hid hr
    have hsh : shE B n = (spr B 64 [] 1 0 (er n)).1 := by rw [shE, if_neg (by simp [hr])]
    have HSh := Lib.hid hsh
    clear hsh hr hrt l2 l4 hB z3 hW3 hIs h hse hnv hx ht
    go_enter Tryd.func24, Tryd.ntmps24
    go_upto_region 1 with (fail)
    rw [HW3.out]
    go_wp2_with fail
    with_reducible refine HRt.out.mono ?_
    rintro e w4 ⟨rfl, hb4⟩
    have hBB := HB.out.trans (hb4.mono HB.out.size)
    have l24 := (hb4.block _ (block_lt H2.out)).trans H2.out
    have l44 := (hb4.block _ (block_lt H4.out)).trans H4.out
    obtain ⟨W5, hW5⟩ : ∃ W5, w4.alloc (.cells #[.pointer (some ⟨p, 0, none⟩), .int .i64 0, .slice none 0 0, .nilIface] 113 (0, 0)) = W5 := ⟨_, rfl⟩
    have b5 : Below w4.heap.size w4 W5 := by rw [← hW5]; exact (Below.refl _ _).alloc (Nat.le_refl _) _
    have s5 : W5.heap[w4.heap.size]? = some (.cells #[.pointer (some ⟨p, 0, none⟩), .int .i64 0, .slice none 0 0, .nilIface] 113 (0, 0)) := by rw [← hW5]; exact World.alloc_heap_new _ _
    have l25 := (b5.block _ (block_lt l24)).trans l24
    have l45 := (b5.block _ (block_lt l44)).trans l44
    have hIs4 : Is w4.heap.size w4 n := Is.mono hBB.size (Is.below hBB HK.out.2.2)
    have hC : SpC w4 B w4.heap.size p 64 [] 1 0 n W5 none 0 0 :=
      ⟨b5, ⟨s5, World.ownsRow_nil _ _ _ _, rfl, Nat.le_refl _, (fun k hk => by cases hk)⟩, List.nodup_nil, (fun x hx => by cases hx), by decide, by decide, by have := HK.out.1.len; simp; omega, hIs4, rgt_good HR.out, rgt_sz HR.out⟩
    have hcl := spread_all E w4 w4.heap.size p L X B (HK.out.1.below hBB) (HK.out.2.1.keep hBB) 64 [] 1 0 n W5 none 0 0 hC
    rw [HNv.out, show ((1 : Nat) : Int) = 1 from rfl] at hcl
    obtain ⟨r, hrr⟩ : ∃ r, spr B 64 [] 1 0 (er n) = r := ⟨_, rfl⟩
    rw [hrr] at hcl
    have HRr := Lib.hid hrr
    have HCl := Lib.hid hcl
    have HW5 := Lib.hid hW5
    have HB5 := Lib.hid (And.intro hBB (And.intro b5 hb4.size))
    have H45 := Lib.hid l45
    obtain ⟨u0, u1, u2, u3, u4, u5, u6, u7, u8⟩ := nd_cells l25
    clear hcl hC hIs4 hrr hW5 b5 s5 l25 l45 l24 l44 hBB hb4
    go_upto_region 4 with (fail)
    rw [HW5.out]
    go_wp2_with fail
    with_reducible refine HCl.out.mono ?_
    rintro e w6 ⟨m, pa', pc', rfl, q1, q2, q3, q4, q5, q6⟩
    obtain ⟨hBB, b5, hz34⟩ := HB5.out
    have hz3 := HZ.out
    have hz45 := b5.size
    have hlt4 := block_lt H45.out
    have b6 : Below w4.heap.size W5 w6 := q5.toBelow b5.size (by intro q hq; simp [Value.ownBlock] at hq; omega)
    have l46 := (q5.block _ (block_lt H45.out) (by intro hq; simp [Value.ownBlock] at hq; omega)).trans H45.out
    obtain ⟨v0, v1, v2, v3, hvs⟩ := four' q3.len
    obtain ⟨k', mn', mx', a', nl', c', t', hnv, hcl⟩ := nv_explicit hvs
    obtain ⟨W7, hW7⟩ : ∃ W7, w6.alloc (.cells #[.int .i64 k', .int .u64 (v0 : Int), .int .u64 (v1 : Int), .int .u64 (v2 : Int), .int .u64 (v3 : Int), .slice a' nl' c', .int .i64 mn', .int .i64 mx', .string (Str t')] 37) = W7 := ⟨_, rfl⟩
    have b7 : Below w6.heap.size w6 W7 := by rw [← hW7]; exact (Below.refl _ _).alloc (Nat.le_refl _) _
    have s7 : W7.heap[w6.heap.size]? = some (.cells #[.int .i64 k', .int .u64 (v0 : Int), .int .u64 (v1 : Int), .int .u64 (v2 : Int), .int .u64 (v3 : Int), .slice a' nl' c', .int .i64 mn', .int .i64 mx', .string (Str t')] 37 (0, 0)) := by rw [← hW7]; exact heap_alloc_new w6 _
    have l47 := (b7.block _ (block_lt l46)).trans l46
    have c3 := (q1.below b7).cell.2.2.2
    have hB7 : Below w.heap.size w W7 := ((hBB.trans (b5.mono hBB.size)).trans (b6.mono hBB.size)).trans (b7.mono (by have := hBB.size; have := b6.size; omega))
    have hI7 : Is W7.heap.size W7 m := Is.mono b7.size (Is.below b7 q3)
    have HW7 := Lib.hid hW7
    simp only [hnv]
    clear hW7
    obtain ⟨d0, d1, d2, d3, d4, d5, d6, d7, d8⟩ := nd_cells l47
    obtain ⟨f0, f1, f2, f3, f4, f5, f6, f7, f8⟩ := frz9 l47
    by_cases h0 : r.1 = 0
    · have hpb := put9_block l47 (.int .i64 k') (.int .u64 (v0 : Int)) (.int .u64 (v1 : Int)) (.int .u64 (v2 : Int)) (.int .u64 (v3 : Int)) (.slice a' nl' c') (.int .i64 mn') (.int .i64 mx') (.string (Str t'))
      have hpm := put9_mod W7 (w.heap.size + 1) (.int .i64 k') (.int .u64 (v0 : Int)) (.int .u64 (v1 : Int)) (.int .u64 (v2 : Int)) (.int .u64 (v3 : Int)) (.slice a' nl' c') (.int .i64 mn') (.int .i64 mx') (.string (Str t'))
      have hsh0 : shE B n = 0 := by rw [HSh.out, HRr.out]; exact h0
      have hre : ShP E B n w (.returned (.tuple #[nv m, .nilIface])) (put9 W7 (w.heap.size + 1) (.int .i64 k') (.int .u64 (v0 : Int)) (.int .u64 (v1 : Int)) (.int .u64 (v2 : Int)) (.int .u64 (v3 : Int)) (.slice a' nl' c') (.int .i64 mn') (.int .i64 mx') (.string (Str t'))) :=
        ⟨m, by rw [hsh0]; rfl, fun _ => by rw [HRr.out]; exact q2 h0, fun h => absurd hsh0 h, is_mod hI7 q4 hpm (fun b hb => .inl fun hq => by simp at hb; omega), q4.mono fun q hq => (by have := hq.1; have := hBB.size; omega), hB7.trans (hpm.toBelow hB7.size (by simp))⟩
      rw [hnv] at hre
      rw [h0] at c3
      have c3' : W7.cell? ⟨w4.heap.size, 3, none⟩ = some .nilIface := c3
      obtain ⟨u0, u1, u2, u3, u4, u5, u6, u7, u8⟩ := nd_cells s7
      have HRe := Lib.hid hre
      have HPb := Lib.hid hpb
      clear hre hpb hpm hI7 hB7 b7 s7 l47 l46 b6 q1 q2 q3 q4 q5 q6 hnv hcl hvs c3
      go_upto_region 5 with (fail)
      rw [HW7.out]
      go_wp2
      ((try simp only [Exit.inBlock, Exit.then]); refine bodyPost_ret (Kt.results_cell2_row rfl _ _ (w.heap.size + 1) 37 _ (0, 0) _ rfl (HPb.out) Tryd.underlying37 rfl ?hi2) rfl ?_; (case hi2 => kernel_rfl))
      exact HRe.out
    · have hpb := put9_block l47 (.int .i64 0) (.int .u64 0) (.int .u64 0) (.int .u64 0) (.int .u64 0) (.slice none 0 0) (.int .i64 0) (.int .i64 0) (.string ⟨#[]⟩)
      have hpm := put9_mod W7 (w.heap.size + 1) (.int .i64 0) (.int .u64 0) (.int .u64 0) (.int .u64 0) (.int .u64 0) (.slice none 0 0) (.int .i64 0) (.int .i64 0) (.string ⟨#[]⟩)
      have hsh0 : shE B n = r.1 := by rw [HSh.out, HRr.out]
      have hre : ShP E B n w (.returned (.tuple #[nv nil0, ee E r.1])) (put9 W7 (w.heap.size + 1) (.int .i64 0) (.int .u64 0) (.int .u64 0) (.int .u64 0) (.int .u64 0) (.slice none 0 0) (.int .i64 0) (.int .i64 0) (.string ⟨#[]⟩)).drew :=
        ⟨nil0, by rw [hsh0], fun h => by rw [hsh0] at h; exact absurd h h0, fun _ => rfl, is_nil0 _ _, bl_nil0 _, (hB7.trans (hpm.toBelow hB7.size (by simp))).drew⟩
      have hev : ∃ v, ee E r.1 = .iface 204 (.pointer (some v)) := ⟨E (Er.egs.getD (r.1.toNat - 1) 0), by unfold ee; rw [if_neg h0]; rfl⟩
      obtain ⟨ev, hev⟩ := hev
      rw [hev] at c3 hre
      have HRe := Lib.hid hre
      have HPb := Lib.hid (show (put9 W7 (w.heap.size + 1) (.int .i64 0) (.int .u64 0) (.int .u64 0) (.int .u64 0) (.int .u64 0) (.slice none 0 0) (.int .i64 0) (.int .i64 0) (.string ⟨#[]⟩)).drew.heap[w.heap.size + 1]? = some (.cells #[.int .i64 0, .int .u64 0, .int .u64 0, .int .u64 0, .int .u64 0, .slice none 0 0, .int .i64 0, .int .i64 0, .string ⟨#[]⟩] 37 (0, 0)) from drew_at hpb)
      have hne1 : ¬ w.heap.size + 1 = w4.heap.size := by omega
      have hne2 : ¬ w4.heap.size = w.heap.size + 1 := by omega
      clear hre hpb hpm hI7 hB7 b7 s7 l47 l46 b6 q1 q2 q3 q4 q5 q6 hnv hcl hvs hev
      go_upto_region 5 with (fail)
      rw [HW7.out]
      go_upto_region 6 with (fail)
      go_region
      go_wp2
      ((try simp only [Exit.inBlock, Exit.then]); refine bodyPost_ret (Kt.results_cell2_row rfl _ _ (w.heap.size + 1) 37 _ (0, 0) _ rfl (HPb.out) Tryd.underlying37 rfl ?hi3) rfl ?_; (case hi3 => kernel_rfl))
      exact HRe.out
end Bo
end Go.Proofs.YteekonojmpihlaaDoor
