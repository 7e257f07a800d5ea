import Derived.Test.YtoeeddfinmfnoaaDoorQBrkRead
import Derived.Test.YtoeeddfinmfnoaaDoorQSets7
/- brackets' reader: an item, a bracket. Condition: the sentinels read as laid. -/
namespace Go.Proofs.YtoeeddfinmfnoaaDoor
namespace Kt
end Kt
namespace Sp
end Sp
namespace St
end St
open Go Go.RowKit Kt Sp St
namespace Bk
variable {w W W' : World} {p : Nat} {s : ByteArray} {i : Nat} {A : Nat → Addr}
def ItP (A : Nat → Addr) (w W : World) (p : Nat) (s : ByteArray) (r : Nat × Nat × Nat × Nat) (e : Ending) (w' : World) : Prop :=
  ∃ rs, e = .returned (.tuple #[sv rs, evb A r.2.2.2]) ∧ rs.length = 4 ∧ (r.2.2.2 = 0 → IsSet rs (spn r.1 r.2.1)) ∧ Rr w w' p s r.2.2.1 ∧ Mod [p] W w'
theorem evb_ne {g : Nat} (h : g = 1 ∨ g = 2 ∨ g = 4) : ∃ x, evb A g = .iface 204 (.pointer (some x)) := by
  rcases h with rfl | rfl | rfl <;> exact ⟨_, rfl⟩
theorem spn_one (c : Nat) (rs : List Nat) (h : IsSet rs (fun q => decide (q = c))) : IsSet rs (spn c c) := by
  have : spn c c = fun q => decide (q = c) := by funext q; rw [Bool.eq_iff_iff]; simp [spn]; omega
  rw [this]; exact h
theorem u8_of (v : Int) (h0 : 0 ≤ v) (h1 : v < 256) : ∃ c : Nat, v = (c : Int) ∧ c < 256 := ⟨v.toNat, by omega, by omega⟩

theorem set_four {rs : List Nat} {f : Nat → Bool} (h : IsSet rs f) : ∃ x0 x1 x2 x3, rs = [x0, x1, x2, x3] := four h.len
/-- The reader and the result's block in the call's world. -/
structure It (w W0 W : World) (p r : Nat) (s : ByteArray) (i : Nat) : Prop where
  rr : Rr w W p s i
  z : Ab W r 0 0 0 0
  m : Mod [p] W0 W
  ne : p ≠ r
  new : W0.heap.size ≤ r
theorem It.start (h : Rr w W p s i) : It w W (W.alloc (.cells #[.int .u64 0, .int .u64 0, .int .u64 0, .int .u64 0] 24)) p W.heap.size s i :=
  ⟨h.below ((Below.refl _ _).alloc (Nat.le_refl _) _), heap_alloc_new W _, (Mod.refl _ _).alloc _, Nat.ne_of_lt h.blk, Nat.le_refl _⟩
variable {W0 : World} {r : Nat}
theorem It.step {j : Nat} (h : It w W0 W p r s i) (hr : Rr w W' p s j) (hM : Mod [p] W W') : It w W0 W' p r s j :=
  ⟨hr, h.z.mod hM (by simpa using fun e => h.ne e.symm), h.m.trans hM (by simp), h.ne, h.new⟩
theorem It.below (h : It w W0 W p r s i) (hb : Below W.heap.size W W') : It w W0 W' p r s i := h.step (h.rr.below hb) (Mod.of_below hb _)
theorem It.wle (h : It w W0 W p r s i) (h0 : Below w.heap.size w W0) : w.heap.size ≤ r := Nat.le_trans h0.size h.new
/-- .. the result stored. -/
theorem It.fin (h : It w W0 W p r s i) (h0 : Below w.heap.size w W0) (x0 x1 x2 x3 : Nat) : Rr w (put4 W r x0 x1 x2 x3) p s i ∧ Mod [p] W0 (put4 W r x0 x1 x2 x3) :=
  ⟨h.rr.put4 h.ne (h.wle h0) _ _ _ _, put4_mod h.m (.inr h.new) _ _ _ _⟩
theorem it_set {p' : Nat} (h : It w W0 W p r s i) (j : Nat) (hp : p' = p) : It w W0 (W.setCell ⟨p', 1, none⟩ (.int .i64 (j : Int))) p r s j := by
  subst hp
  exact h.step (h.rr.set _).1 (h.rr.set _).2
set_option maxHeartbeats 4000000 in
set_option maxRecDepth 100000 in
theorem item_c (h : Rr w W p s i) (hi : i ≤ s.size) (hsz : s.size ≤ 1000000) (hs : Sent 204 w A bks) :
    Calls Tryd.prog 165 #[.pointer (some ⟨p, 0, none⟩)] W (ItP A w W p s (itm s.data.toList i)) := by
  obtain ⟨b1, b2, b3, b4, b5⟩ := one_go s.data.toList i (by rw [← size_list]; exact hi)
  rw [← size_list] at b3
  have hst := It.start h
  have hB := h.B
  have HO := Lib.hid (fun W' (h' : Rr w W' p s i) => one_c h' hi hsz hs)
  obtain ⟨r1, hr1⟩ : ∃ r, one s.data.toList i = r := ⟨_, rfl⟩
  have hitm : itm s.data.toList i = if r1.2.2 ≠ 0 then (0, 0, r1.2.1, r1.2.2)
      else if s.data.toList[r1.2.1]? = some 45 then
        (if (one s.data.toList (r1.2.1 + 1)).2.2 ≠ 0 then (0, 0, (one s.data.toList (r1.2.1 + 1)).2.1, (one s.data.toList (r1.2.1 + 1)).2.2)
        else if (one s.data.toList (r1.2.1 + 1)).1 < r1.1 then (0, 0, r1.2.1 + 1, 1)
        else (r1.1.toNat, (one s.data.toList (r1.2.1 + 1)).1.toNat, (one s.data.toList (r1.2.1 + 1)).2.1, 0))
      else (r1.1.toNat, r1.1.toNat, r1.2.1, 0) := by rw [itm, hr1]
  rw [hr1] at HO b1 b2 b3 b4 b5
  obtain ⟨v1, n1, g1⟩ := r1
  simp only at HO b1 b2 b3 b4 b5 hitm
  obtain ⟨c1, rfl, hc1⟩ := u8_of v1 b1 b2
  clear hr1 b1 b2
  obtain ⟨r, hr⟩ : ∃ r, W.heap.size = r := ⟨_, rfl⟩
  rw [hr] at hst
  have HSt := Lib.hid hst
  have HB := Lib.hid hB
  have HRr := Lib.hid hr
  clear hst hB hr
  by_cases hg1 : g1 = 0
  · subst hg1
    have hlt := b4 rfl
    rw [if_neg (by simp)] at hitm
    have he0 : evb A 0 = .nilIface := rfl
    rw [he0] at HO
    by_cases hh : s.data.toList[n1]? = some 45
    · rw [if_pos hh] at hitm
      obtain ⟨hl, _⟩ := List.getElem?_eq_some_iff.1 hh
      rw [← size_list] at hl
      have HT := Lib.hid (fun W' (h' : Rr w W' p s n1) => take_yes 45 h' hh hsz)
      obtain ⟨d1, d2, d3, d4, d5⟩ := one_go s.data.toList (n1 + 1) (by rw [← size_list]; omega)
      rw [← size_list] at d3
      have HO2 := Lib.hid (fun W' (h' : Rr w W' p s (n1 + 1 : Nat)) => one_c h' (by omega) hsz hs)
      obtain ⟨r2, hr2⟩ : ∃ r, one s.data.toList (n1 + 1) = r := ⟨_, rfl⟩
      rw [hr2] at d1 d2 d3 d4 d5 hitm HO2
      obtain ⟨v2, n2, g2⟩ := r2
      simp only at d1 d2 d3 d4 d5 hitm HO2
      obtain ⟨c2, rfl, hc2⟩ := u8_of v2 d1 d2
      clear hr2 d1 d2 hh h
      have hHS := Lib.hid hs
      clear hs
      by_cases hg2 : g2 = 0
      · subst hg2
        rw [if_neg (by simp)] at hitm
        rw [he0] at HO2
        by_cases hlt2 : (c2 : Int) < (c1 : Int)
        · rw [if_pos hlt2] at hitm
          rw [hitm]
          have hd : decide (c2 < c1) = true := by simp; omega
          have hc : (((n1 + 1 : Nat)) : Int) = (n1 : Int) + 1 := by omega
          have Hc := Lib.hid hc
          clear hitm he0 hc
          go_enter Tryd.func165, Tryd.ntmps165
          go_wp2_with fail
          rw [HRr.out]
          refine (HO.out _ HSt.out.rr).mono ?_
          rintro e w1 ⟨rfl, r1, m1⟩
          have I1 := Lib.hid (HSt.out.step r1 m1)
          clear r1 m1
          go_wp2_with fail
          refine (HT.out _ I1.out.rr).mono ?_
          rintro e w2 ⟨rfl, r2, m2⟩
          have I2 := Lib.hid (I1.out.step r2 m2)
          clear r2 m2
          have kc := I2.out.rr.cells
          obtain ⟨k0, k1, kf⟩ := kc
          go_wp2_with fail
          refine (HO2.out _ I2.out.rr).mono ?_
          rintro e w3 ⟨rfl, r3, m3⟩
          have I3 := Lib.hid (I2.out.step r3 m3)
          clear k0 k1 kf r3 m3
          have I3 := I3.out
          obtain ⟨k0, k1, kf⟩ := I3.rr.cells
          have e1 := (hHS.out.keep I3.rr.B).cell 3 (by simp [bks])
          have hs4 := it_set I3 (n1 + 1) rfl
          rw [Hc.out] at hs4
          obtain ⟨⟨z0, z1, z2, z3⟩, f0, f1, f2, f3⟩ := hs4.z.cells
          have e1' := (hHS.out.keep hs4.rr.B).cell 3 (by simp [bks])
          have hbz := build_zero
          have HZ := Lib.hid (hs4.z.put 0 0 0 0)
          have hfin := hs4.fin HB.out 0 0 0 0
          have e1p := (hHS.out.keep hfin.1.B).cell 3 (by simp [bks])
          unfold put4 at e1p
          simp only [show ((0 : Nat) : Int) = 0 from rfl] at e1p
          have HF := Lib.hid hfin
          clear hs4 I3 hfin
          go_wp2_with fail
          go_region
          all_goals
            go_wp2
            ((try simp only [Exit.inBlock, Exit.then]); refine bodyPost_ret (Kt.results_cell2_row rfl _ _ (r) 24 _ (0, 0) _ rfl (HZ.out) Tryd.underlying24 rfl ?hi1) rfl ?_; (case hi1 => kernel_rfl))
            exact ⟨[0, 0, 0, 0], rfl, rfl, fun h => absurd h Nat.one_ne_zero, HF.out.1.below (Below.refl _ _).drew, HF.out.2.drew⟩
        · rw [if_neg hlt2] at hitm
          rw [hitm]
          have hd : decide (c2 < c1) = false := by simp; omega
          have hle : c1 ≤ c2 := by omega
          clear hitm he0
          go_enter Tryd.func165, Tryd.ntmps165
          go_wp2_with fail
          rw [HRr.out]
          refine (HO.out _ HSt.out.rr).mono ?_
          rintro e w1 ⟨rfl, r1, m1⟩
          have I1 := Lib.hid (HSt.out.step r1 m1)
          clear r1 m1
          go_wp2_with fail
          refine (HT.out _ I1.out.rr).mono ?_
          rintro e w2 ⟨rfl, r2, m2⟩
          have I2 := Lib.hid (I1.out.step r2 m2)
          clear r2 m2
          have kc := I2.out.rr.cells
          obtain ⟨k0, k1, kf⟩ := kc
          go_wp2_with fail
          refine (HO2.out _ I2.out.rr).mono ?_
          rintro e w3 ⟨rfl, r3, m3⟩
          have I3 := Lib.hid (I2.out.step r3 m3)
          clear k0 k1 kf r3 m3
          go_wp2_with fail
          refine (span_c c1 c2 hc1 hc2 _).mono ?_
          rintro e w4 ⟨rs, rfl, hset, hb4⟩
          obtain ⟨x0, x1, x2, x3, rfl⟩ := set_four hset
          have I4 := I3.out.below hb4
          obtain ⟨⟨z0, z1, z2, z3⟩, f0, f1, f2, f3⟩ := I4.z.cells
          have HZ := Lib.hid (I4.z.put x0 x1 x2 x3)
          have HF := Lib.hid (I4.fin HB.out x0 x1 x2 x3)
          have HSet := Lib.hid hset
          try simp only [sv, vals, List.map_cons, List.map_nil]
          clear hset hb4 I4
          go_wp2
          ((try simp only [Exit.inBlock, Exit.then]); refine bodyPost_ret (Kt.results_cell2_row rfl _ _ (r) 24 _ (0, 0) _ rfl (HZ.out) Tryd.underlying24 rfl ?hi2) rfl ?_; (case hi2 => kernel_rfl))
          exact ⟨_, rfl, HSet.out.len, fun _ => HSet.out, HF.out⟩
      · have hg2' : g2 = 1 ∨ g2 = 2 ∨ g2 = 4 := by omega
        obtain ⟨x, hx⟩ := evb_ne (A := A) hg2'
        rw [if_pos (by simpa using hg2)] at hitm
        rw [hitm]
        delta ItP
        rw [hx] at HO2 ⊢
        clear hitm he0 hx
        go_enter Tryd.func165, Tryd.ntmps165
        go_wp2_with fail
        rw [HRr.out]
        refine (HO.out _ HSt.out.rr).mono ?_
        rintro e w1 ⟨rfl, r1, m1⟩
        have I1 := Lib.hid (HSt.out.step r1 m1)
        clear r1 m1
        go_wp2_with fail
        refine (HT.out _ I1.out.rr).mono ?_
        rintro e w2 ⟨rfl, r2, m2⟩
        have I2 := Lib.hid (I1.out.step r2 m2)
        clear r2 m2
        have kc := I2.out.rr.cells
        obtain ⟨k0, k1, kf⟩ := kc
        go_wp2_with fail
        refine (HO2.out _ I2.out.rr).mono ?_
        rintro e w3 ⟨rfl, r3, m3⟩
        have I3 := Lib.hid (I2.out.step r3 m3)
        clear k0 k1 kf r3 m3
        obtain ⟨⟨z0, z1, z2, z3⟩, f0, f1, f2, f3⟩ := I3.out.z.cells
        have hbz := build_zero
        have HZ := Lib.hid (I3.out.z.put 0 0 0 0)
        have HF := Lib.hid (I3.out.fin HB.out 0 0 0 0)
        go_wp2
        ((try simp only [Exit.inBlock, Exit.then]); refine bodyPost_ret (Kt.results_cell2_row rfl _ _ (r) 24 _ (0, 0) _ rfl (HZ.out) Tryd.underlying24 rfl ?hi3) rfl ?_; (case hi3 => kernel_rfl))
        exact ⟨[0, 0, 0, 0], rfl, rfl, fun h => absurd h hg2, HF.out⟩
    · rw [if_neg hh] at hitm
      have HT := Lib.hid (fun W' (h' : Rr w W' p s n1) => take_c 45 h' hsz false (by simpa using hh))
      rw [hitm]
      clear hitm hh h hs
      go_enter Tryd.func165, Tryd.ntmps165
      go_wp2_with fail
      rw [HRr.out]
      refine (HO.out _ HSt.out.rr).mono ?_
      rintro e w1 ⟨rfl, r1, m1⟩
      have I1 := Lib.hid (HSt.out.step r1 m1)
      clear r1 m1
      go_wp2_with fail
      refine (HT.out _ I1.out.rr).mono ?_
      rintro e w2 ⟨rfl, r2, m2⟩
      have I2 := Lib.hid (I1.out.step r2 m2)
      clear r2 m2
      go_wp2_with fail
      refine (St.one_c c1 hc1 _).mono ?_
      rintro e w4 ⟨rs, rfl, hset, hb4⟩
      obtain ⟨x0, x1, x2, x3, rfl⟩ := set_four hset
      have I4 := I2.out.below hb4
      obtain ⟨⟨z0, z1, z2, z3⟩, f0, f1, f2, f3⟩ := I4.z.cells
      have HZ := Lib.hid (I4.z.put x0 x1 x2 x3)
      have HF := Lib.hid (I4.fin HB.out x0 x1 x2 x3)
      have HSet := Lib.hid hset
      try simp only [sv, vals, List.map_cons, List.map_nil]
      clear hset hb4 I4
      go_wp2
      ((try simp only [Exit.inBlock, Exit.then]); refine bodyPost_ret (Kt.results_cell2_row rfl _ _ (r) 24 _ (0, 0) _ rfl (HZ.out) Tryd.underlying24 rfl ?hi4) rfl ?_; (case hi4 => kernel_rfl))
      exact ⟨_, rfl, HSet.out.len, fun _ => spn_one _ _ HSet.out, HF.out⟩
  · have hg1' : g1 = 1 ∨ g1 = 2 ∨ g1 = 4 := by omega
    obtain ⟨x, hx⟩ := evb_ne (A := A) hg1'
    rw [if_pos (by simpa using hg1)] at hitm
    rw [hitm]
    delta ItP
    rw [hx] at HO ⊢
    clear hitm hx h hs
    go_enter Tryd.func165, Tryd.ntmps165
    go_wp2_with fail
    rw [HRr.out]
    refine (HO.out _ HSt.out.rr).mono ?_
    rintro e w1 ⟨rfl, r1, m1⟩
    have I1 := Lib.hid (HSt.out.step r1 m1)
    clear r1 m1
    go_wp2_with fail
    refine (St.one_c c1 hc1 _).mono ?_
    rintro e w4 ⟨rs, rfl, hset, hb4⟩
    obtain ⟨x0, x1, x2, x3, rfl⟩ := set_four hset
    have I4 := I1.out.below hb4
    obtain ⟨⟨z0, z1, z2, z3⟩, f0, f1, f2, f3⟩ := I4.z.cells
    have HZ := Lib.hid (I4.z.put x0 x1 x2 x3)
    have HF := Lib.hid (I4.fin HB.out x0 x1 x2 x3)
    have HSet := Lib.hid hset
    try simp only [sv, vals, List.map_cons, List.map_nil]
    clear hset hb4 I4
    go_wp2
    ((try simp only [Exit.inBlock, Exit.then]); refine bodyPost_ret (Kt.results_cell2_row rfl _ _ (r) 24 _ (0, 0) _ rfl (HZ.out) Tryd.underlying24 rfl ?hi5) rfl ?_; (case hi5 => kernel_rfl))
    exact ⟨_, rfl, HSet.out.len, fun h => absurd h hg1, HF.out⟩
end Bk
end Go.Proofs.YtoeeddfinmfnoaaDoor

/- brackets.Dot. -/
namespace Go.Proofs.YtoeeddfinmfnoaaDoor
open Go Go.RowKit Kt Sp St
namespace Bk
set_option maxRecDepth 100000 in
theorem dot_c (w : World) : Calls Tryd.prog 99 #[] w fun e w' => ∃ rs, e = .returned (sv rs) ∧ IsSet rs (fun q => !decide (q = 10)) ∧ Below w.heap.size w w' := by
  have b1 := (Below.refl w.heap.size w).alloc (Nat.le_refl _) (.cells #[.int .u64 0, .int .u64 0, .int .u64 0, .int .u64 0] 24)
  have a1 : Ab (w.alloc (.cells #[.int .u64 0, .int .u64 0, .int .u64 0, .int .u64 0] 24)) w.heap.size 0 0 0 0 := heap_alloc_new w _
  have HO := Lib.hid (fun w => (show Calls Tryd.prog 61 #[.int .u8 10] w _ from St.one_c 10 (by omega) w))
  have HB1 := Lib.hid b1
  have HA1 := Lib.hid a1
  clear b1 a1
  go_enter Tryd.func99, Tryd.ntmps99
  go_wp2_with fail
  refine (HO.out _).mono ?_
  rintro e w2 ⟨rs, rfl, hset, hb2⟩
  obtain ⟨x0, x1, x2, x3, rfl⟩ := set_four hset
  have HN := Lib.hid (fun w => not_c [x0, x1, x2, x3] _ hset w)
  have HA2 := Lib.hid (HA1.out.below hb2)
  have HB2 := Lib.hid (HB1.out.trans (hb2.mono HB1.out.size))
  simp only [sv, vals, List.map_cons, List.map_nil] at HN ⊢
  clear hset hb2
  go_wp2_with fail
  refine (HN.out _).mono ?_
  rintro e w3 ⟨us, rfl, hu, hb3⟩
  obtain ⟨u0, u1, u2, u3, rfl⟩ := set_four hu
  have A3 := HA2.out.below hb3
  obtain ⟨⟨k0, k1, k2, k3⟩, f0, f1, f2, f3⟩ := A3.cells
  have HF := Lib.hid (A3.put u0 u1 u2 u3)
  have HB3 := Lib.hid (put4_below (HB2.out.trans (hb3.mono HB2.out.size)) (Nat.le_refl w.heap.size) u0 u1 u2 u3)
  have HU := Lib.hid hu
  try simp only [sv, vals, List.map_cons, List.map_nil]
  clear hu hb3 A3
  go_wp2
  ((try simp only [Exit.inBlock, Exit.then]); refine bodyPost_ret (results_cell_row rfl _ _ (w.heap.size) 24 _ (0, 0) _ rfl (HF.out) Tryd.underlying24 rfl ?hi1) rfl ?_; (case hi1 => kernel_rfl))
  exact ⟨[u0, u1, u2, u3], rfl, HU.out, HB3.out⟩
end Bk
end Go.Proofs.YtoeeddfinmfnoaaDoor
