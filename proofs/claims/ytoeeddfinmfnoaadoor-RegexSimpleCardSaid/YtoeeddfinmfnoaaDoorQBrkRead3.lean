import Derived.Test.YtoeeddfinmfnoaaDoorQBrkDot
import Derived.Test.YtoeeddfinmfnoaaDoorQSets4
import Derived.Deep.LoopGhost
import Derived.Deep.CutBlock
/- brackets.Read: a bracket. Condition: the sentinels read as laid. -/
namespace Go.Proofs.YtoeeddfinmfnoaaDoor
namespace Kt
end Kt
namespace Sp
end Sp
namespace St
end St
open Go Go.RowKit Kt Sp St
namespace Bk
variable {w W W' : World} {p : Nat} {s : ByteArray} {i : Nat} {A : Nat → Addr}
theorem itm_gos (s : ByteArray) (i : Nat) (h : i ≤ s.size) : (itm s.data.toList i).2.2.1 ≤ s.size ∧ ((itm s.data.toList i).2.2.2 = 0 → i < (itm s.data.toList i).2.2.1) ∧ ((itm s.data.toList i).2.2.2 = 0 ∨ (itm s.data.toList i).2.2.2 = 1 ∨ (itm s.data.toList i).2.2.2 = 2 ∨ (itm s.data.toList i).2.2.2 = 4) := by
  obtain ⟨_, _, h3, h4, h5⟩ := itm_go s.data.toList i (by rw [← size_list]; exact h)
  rw [← size_list] at h3
  exact ⟨h3, h4, h5⟩
/-- The loop of a bracket: at most k rounds are to come, and their end is R. -/
def BrR (w W0 : World) (p r o : Nat) (s : ByteArray) (R : (Nat → Bool) × Nat × Nat) (k : Nat) (fv : Value) (W : World) : Prop :=
  ∃ (f : Nat → Bool) (i : Nat) (first : Bool) (x0 x1 x2 x3 : Nat), i ≤ s.size ∧ s.size < k + i ∧ lp s.data.toList k f i first = R ∧ fv = .bool first ∧ IsSet [x0, x1, x2, x3] f ∧ Ab W o x0 x1 x2 x3 ∧ It w W0 W p r s i
/-- What a bracket answers. -/
def BrP (A : Nat → Addr) (w W : World) (p : Nat) (s : ByteArray) (r : (Nat → Bool) × Nat × Nat) (e : Ending) (w' : World) : Prop :=
  ∃ rs, e = .returned (.tuple #[sv rs, evb A r.2.2]) ∧ IsSet rs r.1 ∧ Rr w w' p s r.2.1 ∧ Mod [p] W w'
theorem none_set : IsSet [0, 0, 0, 0] none' := zero_set
theorem start_any {i : Int} (h : Rr w W p s i) : Rr w (W.alloc (.cells #[.int .u64 0, .int .u64 0, .int .u64 0, .int .u64 0] 24)) p s i ∧ Ab (W.alloc (.cells #[.int .u64 0, .int .u64 0, .int .u64 0, .int .u64 0] 24)) W.heap.size 0 0 0 0 ∧ p ≠ W.heap.size :=
  ⟨h.below ((Below.refl _ _).alloc (Nat.le_refl _) _), heap_alloc_new W _, Nat.ne_of_lt h.blk⟩
set_option maxHeartbeats 4000000 in
set_option maxRecDepth 100000 in
theorem bracket_neg {i : Int} (h : Rr w W p s i) (hi : i < 0 ∨ (s.size : Int) ≤ i) (hs : Sent 204 w A bks) :
    Calls Tryd.prog 159 #[.pointer (some ⟨p, 0, none⟩)] W (BrP A w W p s (none', s.size, 2)) := by
  have HE : Hid (∀ W', Rr w W' p s i → Calls Tryd.prog 163 #[.pointer (some ⟨p, 0, none⟩)] W' fun e w' => e = .returned (.bool true) ∧ Below W'.heap.size W' w') := Lib.hid fun W' h' => by
    by_cases h0 : i < 0
    · exact end_neg h' h0
    · obtain ⟨n, rfl⟩ : ∃ n : Nat, i = (n : Int) := ⟨i.toNat, by omega⟩
      exact end_c h' true (by simp; omega)
  obtain ⟨r1, z1, hne⟩ := start_any h
  have hB := h.B
  obtain ⟨r, hr⟩ : ∃ r, W.heap.size = r := ⟨_, rfl⟩
  rw [hr] at z1 hne
  have R1 := Lib.hid r1
  have Z1 := Lib.hid z1
  have HB := Lib.hid hB
  have HRr := Lib.hid hr
  have HM := Lib.hid ((Mod.refl [p] W).alloc (.cells #[.int .u64 0, .int .u64 0, .int .u64 0, .int .u64 0] 24))
  have HS := Lib.hid hs
  clear h hs hi r1 z1 hB hr
  go_enter Tryd.func159, Tryd.ntmps159
  go_wp2_with fail
  rw [HRr.out]
  refine (HE.out _ R1.out).mono ?_
  rintro e w1 ⟨rfl, hb1⟩
  have R2 := R1.out.below hb1
  have Z2 := Z1.out.below hb1
  have M2 := HM.out.below hb1
  obtain ⟨k0, k1, kf⟩ := R2.cells
  have R3 := R2.set (s.size : Int)
  have hr2 : w.heap.size ≤ r := by rw [← HRr.out]; exact HB.out.size
  have hr3 : W.heap.size ≤ r := Nat.le_of_eq HRr.out
  have Z3 := Z2.mod R3.2 (by simpa using fun e => hne e.symm)
  obtain ⟨⟨z0, z1, z2, z3⟩, f0, f1, f2, f3⟩ := Z3.cells
  have e2 := (HS.out.keep R3.1.B).cell 4 (by simp [bks])
  have R4 := R3.1.put4 hne hr2 0 0 0 0
  have e2p := (HS.out.keep R4.B).cell 4 (by simp [bks])
  unfold put4 at e2p
  simp only [show ((0 : Nat) : Int) = 0 from rfl] at e2p
  have hbz := build_zero
  have HZ := Lib.hid (Z3.put 0 0 0 0)
  have HF := Lib.hid (And.intro R4 (put4_mod (M2.trans R3.2 (by simp)) (.inr hr3) 0 0 0 0))
  clear R2 Z2 M2 R3 Z3 R4 hb1
  go_wp2_with fail
  go_region
  all_goals
    go_wp2
    ((try simp only [Exit.inBlock, Exit.then]); refine bodyPost_ret (Kt.results_cell2_row rfl _ _ (r) 24 _ (0, 0) _ rfl (HZ.out) Tryd.underlying24 rfl ?hi1) rfl ?_; (case hi1 => kernel_rfl))
    exact ⟨[0, 0, 0, 0], rfl, none_set, HF.out.1.below (Below.refl _ _).drew, HF.out.2.drew⟩
set_option maxHeartbeats 4000000 in
set_option maxRecDepth 100000 in
theorem bracket_no (h : Rr w W p s i) (hi : i < s.size) (hc : s.data.toList[i]? ≠ some 91) (hsz : s.size ≤ 1000000) (hs : Sent 204 w A bks) :
    Calls Tryd.prog 159 #[.pointer (some ⟨p, 0, none⟩)] W (BrP A w W p s (none', i, 4)) := by
  have HE := Lib.hid (fun W' (h' : Rr w W' p s i) => end_c h' false (by simpa using hi))
  have HT := Lib.hid (fun W' (h' : Rr w W' p s i) => take_c 91 h' hsz false (by simpa using hc))
  have hst := It.start h
  have hB := h.B
  obtain ⟨r, hr⟩ : ∃ r, W.heap.size = r := ⟨_, rfl⟩
  rw [hr] at hst
  have I0 := Lib.hid hst
  have HB := Lib.hid hB
  have HRr := Lib.hid hr
  have HS := Lib.hid hs
  clear h hs hi hB hr hst hc
  go_enter Tryd.func159, Tryd.ntmps159
  go_wp2_with fail
  rw [HRr.out]
  refine (HE.out _ I0.out.rr).mono ?_
  rintro e w1 ⟨rfl, hb1⟩
  have I1 := Lib.hid (I0.out.below hb1)
  clear hb1
  go_wp2_with fail
  refine (HT.out _ I1.out.rr).mono ?_
  rintro e w2 ⟨rfl, r2, m2⟩
  have I2 := I1.out.step r2 m2
  obtain ⟨⟨z0, z1, z2, z3⟩, f0, f1, f2, f3⟩ := I2.z.cells
  have e2 := (HS.out.keep I2.rr.B).cell 0 (by simp [bks])
  have hfin := I2.fin HB.out 0 0 0 0
  have e2p := (HS.out.keep hfin.1.B).cell 0 (by simp [bks])
  unfold put4 at e2p
  simp only [show ((0 : Nat) : Int) = 0 from rfl] at e2p
  have hbz := build_zero
  have HZ := Lib.hid (I2.z.put 0 0 0 0)
  have HF := Lib.hid hfin
  clear I2 hfin r2 m2
  go_wp2_with fail
  go_region
  all_goals
    go_wp2
    ((try simp only [Exit.inBlock, Exit.then]); refine bodyPost_ret (Kt.results_cell2_row rfl _ _ (r) 24 _ (0, 0) _ rfl (HZ.out) Tryd.underlying24 rfl ?hi2) rfl ?_; (case hi2 => kernel_rfl))
    exact ⟨[0, 0, 0, 0], rfl, none_set, HF.out.1.below (Below.refl _ _).drew, HF.out.2.drew⟩
set_option maxHeartbeats 8000000 in
set_option maxRecDepth 100000 in
theorem bracket_yes (h : Rr w W p s i) (hi : i < s.size) (hc : s.data.toList[i]? = some 91) (hsz : s.size ≤ 1000000) (hs : Sent 204 w A bks) :
    Calls Tryd.prog 159 #[.pointer (some ⟨p, 0, none⟩)] W (BrP A w W p s (brd s.data.toList i)) := by
  have hl := size_list s
  obtain ⟨nb, hnb⟩ : ∃ nb, decide (s.data.toList[i + 1]? = some 94) = nb := ⟨_, rfl⟩
  obtain ⟨j, hj⟩ : ∃ j, (if nb then i + 1 + 1 else i + 1) = j := ⟨_, rfl⟩
  obtain ⟨R, hR⟩ : ∃ R, lp s.data.toList (s.size + 1) none' j true = R := ⟨_, rfl⟩
  have hbrd : brd s.data.toList i = if nb then (if R.2.2 ≠ 0 then R else (fun q => !R.1 q, R.2.1, 0)) else R := by
    unfold brd
    rw [← hl, if_neg (by omega), if_neg (by rw [hc]; simp)]
    subst hR hj
    cases nb with
    | true => rw [if_pos (by simpa using hnb)]; rfl
    | false => rw [if_neg (by simpa using hnb)]; rfl
  have hjl : j ≤ s.size := by
    subst hj
    cases nb with
    | false => simp; omega
    | true =>
      have : s.data.toList[i + 1]? = some 94 := by simpa using hnb
      have := (List.getElem?_eq_some_iff.1 this).1
      simp; omega
  have HE := Lib.hid (fun W' (h' : Rr w W' p s i) => end_c h' false (by simpa using hi))
  have HT1 := Lib.hid (fun W' (h' : Rr w W' p s i) => take_c 91 h' hsz true (by simpa using hc))
  have HT2 := Lib.hid (fun W' (h' : Rr w W' p s (i + 1 : Nat)) => take_c 94 h' hsz nb hnb)
  obtain ⟨Z, hZ⟩ : ∃ Z, brd s.data.toList i = Z := ⟨_, rfl⟩
  rw [hZ] at hbrd ⊢
  have HBrd := Lib.hid hbrd
  have hst := It.start h
  have hB := h.B
  obtain ⟨r, hr⟩ : ∃ r, W.heap.size = r := ⟨_, rfl⟩
  rw [hr] at hst
  have I0 := Lib.hid hst
  have HB := Lib.hid hB
  have HRr := Lib.hid hr
  have HJ := Lib.hid hj
  have HR := Lib.hid hR
  have HS := Lib.hid hs
  clear h hi hc hs hl hnb hR hbrd hj hst hB hr hZ
  go_enter Tryd.func159, Tryd.ntmps159
  go_wp2_with fail
  rw [HRr.out]
  refine (HE.out _ I0.out.rr).mono ?_
  rintro e w1 ⟨rfl, hb1⟩
  have I1 := Lib.hid (I0.out.below hb1)
  clear hb1
  go_wp2_with fail
  refine (HT1.out _ I1.out.rr).mono ?_
  rintro e w2 ⟨rfl, r2, m2⟩
  have I2 := Lib.hid (I1.out.step r2 m2)
  clear r2 m2
  go_wp2_with fail
  refine (HT2.out _ I2.out.rr).mono ?_
  rintro e w3 ⟨rfl, r3, m3⟩
  rw [HJ.out] at r3
  have I3 := (I2.out.step r3 m3)
  have I4 := Lib.hid (I3.below ((Below.refl _ _).alloc (Nat.le_refl _) (.cells #[.int .u64 0, .int .u64 0, .int .u64 0, .int .u64 0] 24)))
  have A4 := Lib.hid (show Ab (w3.alloc (.cells #[.int .u64 0, .int .u64 0, .int .u64 0, .int .u64 0] 24)) w3.heap.size 0 0 0 0 from heap_alloc_new w3 _)
  have hwo : W.heap.size ≤ w3.heap.size := I3.m.size
  have hpo : p < w3.heap.size := I3.rr.blk
  have hro : r < w3.heap.size := block_lt I3.z
  obtain ⟨o, ho⟩ : ∃ o, w3.heap.size = o := ⟨_, rfl⟩
  rw [ho] at A4 hwo hpo hro
  have HO := Lib.hid ho
  clear r3 m3 I3 HE HT1 HT2 ho
  go_wp2_with fail
  rw [HO.out]
  go_loopg [6] (s.size + 1) (fun k fv W' => BrR w W p r o s R k fv W')
  case atStart => exact ⟨none', j, true, 0, 0, 0, 0, hjl, by omega, HR.out, rfl, none_set, A4.out, I4.out⟩
  case round =>
    clear A4 I4
    obtain ⟨f, i2, first, x0, x1, x2, x3, hi2, hk, hlp, rfl, hset, hab, hit⟩ := hrel
    obtain ⟨k, rfl⟩ : ∃ k, gk = k + 1 := ⟨gk - 1, by omega⟩
    rw [lp] at hlp
    by_cases hx : first = false ∧ s.data.toList[i2]? = some 93
    · obtain ⟨rfl, h93⟩ := hx
      rw [if_pos ⟨rfl, h93⟩] at hlp
      subst hlp
      have HT := Lib.hid (take_yes 93 hit.rr h93 hsz)
      have HIt := Lib.hid hit
      have HAb := Lib.hid hab
      have HSet := Lib.hid hset
      clear hit hab hset h93 HR
      go_wp2_with fail
      refine HT.out.mono ?_
      rintro e w4 ⟨rfl, r4, m4⟩
      have I4 := Lib.hid (HIt.out.step r4 m4)
      have A4 := HAb.out.mod m4 (by simp; omega)
      have A4' := Lib.hid A4
      obtain ⟨⟨a0, a1, a2, a3⟩, g0, g1, g2, g3⟩ := A4.cells
      clear r4 m4 A4
      cases nb with
      | false =>
        obtain ⟨⟨z0, z1, z2, z3⟩, f0, f1, f2, f3⟩ := I4.out.z.cells
        have HZ := Lib.hid (I4.out.z.put x0 x1 x2 x3)
        have HF := Lib.hid (I4.out.fin HB.out x0 x1 x2 x3)
        go_wp2
        ((try simp only [Exit.inBlock, Exit.then]); refine bodyPost_ret (Kt.results_cell2_row rfl _ _ (r) 24 _ (0, 0) _ rfl (HZ.out) Tryd.underlying24 rfl ?hi3) rfl ?_; (case hi3 => kernel_rfl))
        rw [show Z = (f, i2 + 1, 0) from HBrd.out]
        exact ⟨[x0, x1, x2, x3], rfl, HSet.out, HF.out⟩
      | true =>
        have HN := Lib.hid (fun W' => not_c [x0, x1, x2, x3] f HSet.out W')
        simp only [sv, vals, List.map_cons, List.map_nil] at HN
        go_wp2_with fail
        refine (HN.out _).mono ?_
        rintro e w5 ⟨rs, rfl, hset, hb5⟩
        obtain ⟨y0, y1, y2, y3, rfl⟩ := set_four hset
        have I5 := I4.out.below hb5
        have A5 := A4'.out.below hb5
        have hom : o ∉ [p] := by simp; omega
        have I6 : It w W (put4 w5 o y0 y1 y2 y3) p r s (i2 + 1) := ⟨I5.rr.put4 (by omega) (Nat.le_trans HB.out.size hwo) _ _ _ _, (put4_other (by omega) _ _ _ _).trans I5.z, put4_mod I5.m (.inr hwo) _ _ _ _, I5.ne, I5.new⟩
        have A6 := A5.put y0 y1 y2 y3
        obtain ⟨⟨b0, b1, b2, b3⟩, g0', g1', g2', g3'⟩ := A6.cells
        obtain ⟨⟨c0, c1, c2, c3⟩, h0', h1', h2', h3'⟩ := A5.cells
        obtain ⟨⟨z0, z1, z2, z3⟩, f0, f1, f2, f3⟩ := I6.z.cells
        have HZ := Lib.hid (I6.z.put y0 y1 y2 y3)
        have HF := Lib.hid (I6.fin HB.out y0 y1 y2 y3)
        have HSet2 := Lib.hid hset
        unfold put4 at b0 b1 b2 b3 g0' g1' g2' g3' z0 z1 z2 z3 f0 f1 f2 f3
        clear hset hb5 I5 A5 I6 A6 a0 a1 a2 a3 g0 g1 g2 g3
        try simp only [sv, vals, List.map_cons, List.map_nil]
        go_wp2
        ((try simp only [Exit.inBlock, Exit.then]); refine bodyPost_ret (Kt.results_cell2_row rfl _ _ (r) 24 _ (0, 0) _ rfl (HZ.out) Tryd.underlying24 rfl ?hi4) rfl ?_; (case hi4 => kernel_rfl))
        rw [show Z = (fun q => !f q, i2 + 1, 0) from HBrd.out]
        exact ⟨[y0, y1, y2, y3], rfl, HSet2.out, HF.out⟩
    · rw [if_neg hx] at hlp
      obtain ⟨t1, t2, t3⟩ := itm_gos s i2 hi2
      have HItem := Lib.hid (fun W' (h' : Rr w W' p s i2) => item_c (A := A) h' hi2 hsz HS.out)
      have htk : first = true ∨ first = false ∧ s.data.toList[i2]? ≠ some 93 := by
        cases first with
        | true => exact .inl rfl
        | false => exact .inr ⟨rfl, fun e => hx ⟨rfl, e⟩⟩
      obtain ⟨q, hq⟩ : ∃ q, itm s.data.toList i2 = q := ⟨_, rfl⟩
      rw [hq] at hlp t1 t2 t3 HItem
      obtain ⟨lo, hi', nx, er⟩ := q
      simp only at hlp t1 t2 t3
      have HIt := Lib.hid hit
      have HAb := Lib.hid hab
      have HSet := Lib.hid hset
      have HLp := Lib.hid hlp
      clear hit hab hset hlp hq hx HR
      rcases htk with rfl | ⟨rfl, hne93⟩
      rotate_left 1
      · have HT := Lib.hid (take_c 93 HIt.out.rr hsz false (by simpa using hne93))
        clear hne93
        go_wp2_with fail
        refine HT.out.mono ?_
        rintro e w4 ⟨rfl, r4, m4⟩
        have HIt := Lib.hid (HIt.out.step r4 m4)
        have HAb := Lib.hid (HAb.out.mod m4 (by simp; omega))
        clear r4 m4 HT
        go_wp2_with fail
        refine (HItem.out _ HIt.out.rr).mono ?_
        rintro e w5 ⟨rs, rfl, hlen, hsp, r5, m5⟩
        obtain ⟨y0, y1, y2, y3, rfl⟩ := four hlen
        simp only at hsp r5
        have I5 := Lib.hid (HIt.out.step r5 m5)
        have A5 := Lib.hid (HAb.out.mod m5 (by simp; omega))
        clear r5 m5
        by_cases her : er = 0
        · subst her
          have ht2 := t2 rfl
          have HSp := Lib.hid (hsp rfl)
          have he0 : evb A 0 = .nilIface := rfl
          rw [he0]
          have hlp := HLp.out
          rw [if_neg (by simp)] at hlp
          have HLp2 := Lib.hid hlp
          have I6 := Lib.hid (I5.out.below ((Below.refl _ _).alloc (Nat.le_refl _) (.cells #[.int .u64 (y0 : Int), .int .u64 (y1 : Int), .int .u64 (y2 : Int), .int .u64 (y3 : Int)] 24)))
          have A6 := Lib.hid (A5.out.below ((Below.refl _ _).alloc (Nat.le_refl _) (.cells #[.int .u64 (y0 : Int), .int .u64 (y1 : Int), .int .u64 (y2 : Int), .int .u64 (y3 : Int)] 24)))
          obtain ⟨⟨a0, a1, a2, a3⟩, g0, g1, g2, g3⟩ := A6.out.cells
          clear hsp hlp HLp t2 t3
          have hab6 : o ≠ w5.heap.size := by have := block_lt A5.out; omega
          have HOr := Lib.hid (fun W' => or_c [x0, x1, x2, x3] [y0, y1, y2, y3] f (spn lo hi') HSet.out HSp.out W')
          simp only [sv, vals, List.map_cons, List.map_nil] at HOr
          try simp only [sv, vals, List.map_cons, List.map_nil]
          go_wp2_with fail
          refine (HOr.out _).mono ?_
          rintro e w7 ⟨ts, rfl, hset7, hb7⟩
          obtain ⟨u0, u1, u2, u3, rfl⟩ := set_four hset7
          have I7 := I6.out.below hb7
          have A7 := A6.out.below hb7
          have I8 : It w W (put4 w7 o u0 u1 u2 u3) p r s nx := ⟨I7.rr.put4 (by omega) (Nat.le_trans HB.out.size hwo) _ _ _ _, (put4_other (by omega) _ _ _ _).trans I7.z, put4_mod I7.m (.inr hwo) _ _ _ _, I7.ne, I7.new⟩
          have I8' := Lib.hid I8
          have A8 := Lib.hid (A7.put u0 u1 u2 u3)
          obtain ⟨⟨b0, b1, b2, b3⟩, j0, j1, j2, j3⟩ := A7.cells
          have HSet7 := Lib.hid hset7
          try simp only [sv, vals, List.map_cons, List.map_nil]
          clear I7 A7 I8 hset7 hb7 a0 a1 a2 a3 g0 g1 g2 g3
          go_wp2
          go_roundg k
          case measure => omega
          case rel => exact ⟨ors f (spn lo hi'), nx, false, u0, u1, u2, u3, t1, by omega, HLp2.out, rfl, HSet7.out, A8.out, I8'.out⟩
        · have her' : er = 1 ∨ er = 2 ∨ er = 4 := by omega
          obtain ⟨x, hx⟩ := evb_ne (A := A) her'
          have hlp := HLp.out
          rw [if_pos (by simpa using her)] at hlp
          have hR : Z = (none', nx, er) := by
            rw [HBrd.out, ← hlp]
            cases nb
            · rfl
            · rw [if_pos rfl, if_pos (by simpa using her)]
          rw [hx]
          have HX := Lib.hid hx
          have HRr2 := Lib.hid hR
          obtain ⟨⟨z0, z1, z2, z3⟩, f0, f1, f2, f3⟩ := (I5.out.below ((Below.refl _ _).alloc (Nat.le_refl _) (.cells #[.int .u64 (y0 : Int), .int .u64 (y1 : Int), .int .u64 (y2 : Int), .int .u64 (y3 : Int)] 24))).z.cells
          have HZ := Lib.hid ((I5.out.below ((Below.refl _ _).alloc (Nat.le_refl _) (.cells #[.int .u64 (y0 : Int), .int .u64 (y1 : Int), .int .u64 (y2 : Int), .int .u64 (y3 : Int)] 24))).z.put 0 0 0 0)
          have HF := Lib.hid ((I5.out.below ((Below.refl _ _).alloc (Nat.le_refl _) (.cells #[.int .u64 (y0 : Int), .int .u64 (y1 : Int), .int .u64 (y2 : Int), .int .u64 (y3 : Int)] 24))).fin HB.out 0 0 0 0)
          have hbz := build_zero
          try simp only [sv, vals, List.map_cons, List.map_nil]
          clear hsp hlp hR hx
          go_wp2
          ((try simp only [Exit.inBlock, Exit.then]); refine bodyPost_ret (Kt.results_cell2_row rfl _ _ (r) 24 _ (0, 0) _ rfl (HZ.out) Tryd.underlying24 rfl ?hi5) rfl ?_; (case hi5 => kernel_rfl))
          rw [HRr2.out]
          exact ⟨[0, 0, 0, 0], by rw [HX.out]; rfl, none_set, HF.out⟩
      · go_wp2_with fail
        refine (HItem.out _ HIt.out.rr).mono ?_
        rintro e w5 ⟨rs, rfl, hlen, hsp, r5, m5⟩
        obtain ⟨y0, y1, y2, y3, rfl⟩ := four hlen
        simp only at hsp r5
        have I5 := Lib.hid (HIt.out.step r5 m5)
        have A5 := Lib.hid (HAb.out.mod m5 (by simp; omega))
        clear r5 m5
        by_cases her : er = 0
        · subst her
          have ht2 := t2 rfl
          have HSp := Lib.hid (hsp rfl)
          have he0 : evb A 0 = .nilIface := rfl
          rw [he0]
          have hlp := HLp.out
          rw [if_neg (by simp)] at hlp
          have HLp2 := Lib.hid hlp
          have I6 := Lib.hid (I5.out.below ((Below.refl _ _).alloc (Nat.le_refl _) (.cells #[.int .u64 (y0 : Int), .int .u64 (y1 : Int), .int .u64 (y2 : Int), .int .u64 (y3 : Int)] 24)))
          have A6 := Lib.hid (A5.out.below ((Below.refl _ _).alloc (Nat.le_refl _) (.cells #[.int .u64 (y0 : Int), .int .u64 (y1 : Int), .int .u64 (y2 : Int), .int .u64 (y3 : Int)] 24)))
          obtain ⟨⟨a0, a1, a2, a3⟩, g0, g1, g2, g3⟩ := A6.out.cells
          clear hsp hlp HLp t2 t3
          have hab6 : o ≠ w5.heap.size := by have := block_lt A5.out; omega
          have HOr := Lib.hid (fun W' => or_c [x0, x1, x2, x3] [y0, y1, y2, y3] f (spn lo hi') HSet.out HSp.out W')
          simp only [sv, vals, List.map_cons, List.map_nil] at HOr
          try simp only [sv, vals, List.map_cons, List.map_nil]
          go_wp2_with fail
          refine (HOr.out _).mono ?_
          rintro e w7 ⟨ts, rfl, hset7, hb7⟩
          obtain ⟨u0, u1, u2, u3, rfl⟩ := set_four hset7
          have I7 := I6.out.below hb7
          have A7 := A6.out.below hb7
          have I8 : It w W (put4 w7 o u0 u1 u2 u3) p r s nx := ⟨I7.rr.put4 (by omega) (Nat.le_trans HB.out.size hwo) _ _ _ _, (put4_other (by omega) _ _ _ _).trans I7.z, put4_mod I7.m (.inr hwo) _ _ _ _, I7.ne, I7.new⟩
          have I8' := Lib.hid I8
          have A8 := Lib.hid (A7.put u0 u1 u2 u3)
          obtain ⟨⟨b0, b1, b2, b3⟩, j0, j1, j2, j3⟩ := A7.cells
          have HSet7 := Lib.hid hset7
          try simp only [sv, vals, List.map_cons, List.map_nil]
          clear I7 A7 I8 hset7 hb7 a0 a1 a2 a3 g0 g1 g2 g3
          go_wp2
          go_roundg k
          case measure => omega
          case rel => exact ⟨ors f (spn lo hi'), nx, false, u0, u1, u2, u3, t1, by omega, HLp2.out, rfl, HSet7.out, A8.out, I8'.out⟩
        · have her' : er = 1 ∨ er = 2 ∨ er = 4 := by omega
          obtain ⟨x, hx⟩ := evb_ne (A := A) her'
          have hlp := HLp.out
          rw [if_pos (by simpa using her)] at hlp
          have hR : Z = (none', nx, er) := by
            rw [HBrd.out, ← hlp]
            cases nb
            · rfl
            · rw [if_pos rfl, if_pos (by simpa using her)]
          rw [hx]
          have HX := Lib.hid hx
          have HRr2 := Lib.hid hR
          obtain ⟨⟨z0, z1, z2, z3⟩, f0, f1, f2, f3⟩ := (I5.out.below ((Below.refl _ _).alloc (Nat.le_refl _) (.cells #[.int .u64 (y0 : Int), .int .u64 (y1 : Int), .int .u64 (y2 : Int), .int .u64 (y3 : Int)] 24))).z.cells
          have HZ := Lib.hid ((I5.out.below ((Below.refl _ _).alloc (Nat.le_refl _) (.cells #[.int .u64 (y0 : Int), .int .u64 (y1 : Int), .int .u64 (y2 : Int), .int .u64 (y3 : Int)] 24))).z.put 0 0 0 0)
          have HF := Lib.hid ((I5.out.below ((Below.refl _ _).alloc (Nat.le_refl _) (.cells #[.int .u64 (y0 : Int), .int .u64 (y1 : Int), .int .u64 (y2 : Int), .int .u64 (y3 : Int)] 24))).fin HB.out 0 0 0 0)
          have hbz := build_zero
          try simp only [sv, vals, List.map_cons, List.map_nil]
          clear hsp hlp hR hx
          go_wp2
          ((try simp only [Exit.inBlock, Exit.then]); refine bodyPost_ret (Kt.results_cell2_row rfl _ _ (r) 24 _ (0, 0) _ rfl (HZ.out) Tryd.underlying24 rfl ?hi6) rfl ?_; (case hi6 => kernel_rfl))
          rw [HRr2.out]
          exact ⟨[0, 0, 0, 0], by rw [HX.out]; rfl, none_set, HF.out⟩
end Bk
end Go.Proofs.YtoeeddfinmfnoaaDoor

/- brackets.Read answers brd. Condition: the sentinels read as laid. -/
namespace Go.Proofs.YtoeeddfinmfnoaaDoor
open Go Go.RowKit Kt Sp St
namespace Bk
variable {w W W' : World} {p : Nat} {s : ByteArray} {i : Nat} {A : Nat → Addr}
/-- What Read answers, by its number. -/
def ReP (A : Nat → Addr) (w : World) (r : (Nat → Bool) × Nat × Nat) (e : Ending) (w' : World) : Prop :=
  ∃ rs, e = .returned (.tuple #[sv rs, .int .i64 (r.2.1 : Int), evb A r.2.2]) ∧ IsSet rs r.1 ∧ Below w.heap.size w w'
set_option maxHeartbeats 4000000 in
set_option maxRecDepth 100000 in
theorem read_of (i : Int) (r : (Nat → Bool) × Nat × Nat) (hr3 : r.2.2 = 0 ∨ r.2.2 = 1 ∨ r.2.2 = 2 ∨ r.2.2 = 4) (hbr : ∀ W p, Rr w W p s i → Calls Tryd.prog 159 #[.pointer (some ⟨p, 0, none⟩)] W (BrP A w W p s r)) :
    Calls Tryd.prog 149 #[.string s, .int .i64 i] w (ReP A w r) := by
  obtain ⟨f, n, g⟩ := r
  simp only at hr3 hbr
  obtain ⟨E, hE⟩ : ∃ E, evb A g = E := ⟨_, rfl⟩
  have b1 := (Below.refl w.heap.size w).alloc (Nat.le_refl _) (.cells #[.int .u64 0, .int .u64 0, .int .u64 0, .int .u64 0] 24)
  have hr0 : Ab (w.alloc (.cells #[.int .u64 0, .int .u64 0, .int .u64 0, .int .u64 0] 24)) w.heap.size 0 0 0 0 := heap_alloc_new w _
  have b2 := b1.alloc b1.size (.cells #[.string s, .int .i64 i] 193)
  have r2 : Rr w ((w.alloc (.cells #[.int .u64 0, .int .u64 0, .int .u64 0, .int .u64 0] 24)).alloc (.cells #[.string s, .int .i64 i] 193)) (w.heap.size + 1) s i :=
    ⟨by have := heap_alloc_new (w.alloc (.cells #[.int .u64 0, .int .u64 0, .int .u64 0, .int .u64 0] 24)) (.cells #[.string s, .int .i64 i] 193); rw [World.size_alloc] at this; exact this, b2, by omega⟩
  have z2 := Ab.below hr0 ((Below.refl _ _).alloc (Nat.le_refl _) (.cells #[.string s, .int .i64 i] 193))
  have R2 := Lib.hid r2
  have Z2 := Lib.hid z2
  have HBr := Lib.hid hbr
  have HE := Lib.hid hE
  clear b1 hr0 b2 r2 z2 hbr hE hr3
  go_enter Tryd.func149, Tryd.ntmps149
  go_wp2_with fail
  refine (HBr.out _ _ R2.out).mono ?_
  rintro e w3 ⟨rs, rfl, hset, r3, m3⟩
  obtain ⟨x0, x1, x2, x3, rfl⟩ := set_four hset
  simp only at hset r3
  rw [show evb A (f, n, g).2.2 = E from HE.out]
  have z3 := Z2.out.mod m3 (by simp)
  have b4 := (Below.refl w3.heap.size w3).alloc (Nat.le_refl _) (.cells #[.int .u64 (x0 : Int), .int .u64 (x1 : Int), .int .u64 (x2 : Int), .int .u64 (x3 : Int)] 24)
  have r4 := r3.below b4
  have z4 := z3.below b4
  have a4 : Ab (w3.alloc (.cells #[.int .u64 (x0 : Int), .int .u64 (x1 : Int), .int .u64 (x2 : Int), .int .u64 (x3 : Int)] 24)) w3.heap.size x0 x1 x2 x3 := heap_alloc_new w3 _
  have hne : w.heap.size ≠ w3.heap.size := by have := r3.blk; have := block_lt z3; omega
  obtain ⟨k0, k1, kf⟩ := r4.cells
  obtain ⟨⟨z0', z1', z2', z3'⟩, f0, f1, f2, f3⟩ := z4.cells
  obtain ⟨⟨a0, a1, a2, a3⟩, _, _, _, _⟩ := a4.cells
  have HZ := Lib.hid (z4.put x0 x1 x2 x3)
  have hp4 := r4.put4 (r := w.heap.size) (by omega) (Nat.le_refl _) x0 x1 x2 x3
  obtain ⟨q0, q1, _⟩ := hp4.cells
  unfold put4 at q0 q1
  have HF := Lib.hid hp4.B
  have HSet := Lib.hid hset
  try simp only [sv, vals, List.map_cons, List.map_nil]
  clear hset r3 m3 z3 b4 r4 z4 a4 hp4
  go_wp2_with fail
  go_region
  all_goals
    go_wp2
    ((try simp only [Exit.inBlock, Exit.then]); refine bodyPost_ret (Kt.results_cell3_row rfl _ _ (w.heap.size) 24 _ (0, 0) _ rfl (HZ.out) Tryd.underlying24 rfl ?hi1) rfl ?_; (case hi1 => kernel_rfl))
    exact ⟨[x0, x1, x2, x3], by rw [show evb A (f, n, g).2.2 = E from HE.out]; rfl, HSet.out, by first | exact HF.out | exact HF.out.drew⟩
theorem read_at (hsz : s.size ≤ 1000000) (hs : Sent 204 w A bks) : Calls Tryd.prog 149 #[.string s, .int .i64 (i : Int)] w (ReP A w (brd s.data.toList i)) := by
  have hl := size_list s
  by_cases h1 : s.size ≤ i
  · have e : brd s.data.toList i = (none', s.size, 2) := by unfold brd; rw [if_pos (by omega), hl]
    rw [e]
    exact read_of _ _ (by simp) fun W p h => bracket_neg h (.inr (by omega)) hs
  · by_cases h2 : s.data.toList[i]? = some 91
    · exact read_of _ _ (brd_go _ _ (by omega)).2 fun W p h => bracket_yes h (by omega) h2 hsz hs
    · have e : brd s.data.toList i = (none', i, 4) := by unfold brd; rw [if_neg (by omega), if_pos h2]
      rw [e]
      exact read_of _ _ (by simp) fun W p h => bracket_no h (by omega) h2 hsz hs
end Bk
end Go.Proofs.YtoeeddfinmfnoaaDoor
