/- slices.insertionSortCmpFunc at Lay's closure: by the keys. -/
import Derived.Test.YteekonojmpihlaaDoorQCbOwn
import Derived.Test.YteekonojmpihlaaDoorQRow
import Derived.BigRegion
namespace Go.Proofs.YteekonojmpihlaaDoor
namespace Kt
end Kt
open Go Go.RowKit Go.Sort Kt
namespace Cb
/-- What cmp.Compare answers. -/
def cmp3 (a b : Nat) : Int := if a < b then -1 else if b < a then 1 else 0
theorem cmp3_neg (a b : Nat) : decide (cmp3 a b < 0) = decide (a < b) := by
  unfold cmp3
  split
  · rename_i h; rw [decide_eq_true h]; rfl
  · rename_i h; rw [decide_eq_false h]; split <;> rfl
/-- What the sort asks of the order's function. -/
def CmpOK (w : World) (g M N : Nat) (key : Nat → Nat) : Prop := ∀ x y : Nat, x < N → y < N → ∀ V, Mod [g] w V → Calls Tryd.prog 76 #[.int .i64 (x : Int), .int .i64 (y : Int), .pointer (some ⟨M, 0, none⟩)] V fun e w' => e = .returned (.int .i64 (cmp3 (key y) (key x))) ∧ V = w'
/-- The row holds d; all else is as it was. -/
structure Sr (w : World) (g cap N : Nat) (d : Array Nat) (V : World) : Prop where
  row : Rx V g 3 cap (i64s (ints d.toList))
  mod : Mod [g] w V
  sz : d.size = N
  bd : ∀ q, q < N → d[q]! < N
variable {w V : World} {g cap N : Nat} {d : Array Nat}
theorem Sr.drewN (h : Sr w g cap N d V) (n : Nat) : Sr w g cap N d (V.drewN n) := ⟨⟨h.row.ex, h.row.le⟩, h.mod.drewN n, h.sz, h.bd⟩
theorem Sr.drew (h : Sr w g cap N d V) : Sr w g cap N d V.drew := ⟨h.row.drew, h.mod.drew, h.sz, h.bd⟩
theorem Sr.cell (h : Sr w g cap N d V) (q : Nat) (hq : q < N) : V.cell? ⟨g, q, none⟩ = some (.int .i64 (d[q]! : Int)) := by
  have hq2 : q < d.size := by rw [h.sz]; exact hq
  rw [h.row.cell q (by simp [i64s, ints, hq2])]
  simp [i64s, ints, hq2]
theorem set_ints (d : Array Nat) (i x : Nat) : i64s (ints (d.setIfInBounds i x).toList) = (i64s (ints d.toList)).set i (.int .i64 (x : Int)) := by
  simp [i64s, ints, List.map_set]
theorem Sr.swap (h : Sr w g cap N d V) (i j : Nat) (hi : i < N) (hj : j < N) : Sr w g cap N (swp d i j) ((V.setCell ⟨g, i, none⟩ (.int .i64 (d[j]! : Int))).setCell ⟨g, j, none⟩ (.int .i64 (d[i]! : Int))) := by
  refine ⟨?_, (h.mod.setCell (.inl (by simp)) _).setCell (.inl (by simp)) _, by rw [size_swp]; exact h.sz, ?_⟩
  · unfold swp
    rw [set_ints, set_ints]
    exact (h.row.set i _).set j _
  · have hsz := h.sz
    exact permIn_all d (swp d i j) 0 N (fun x => x < N) (by omega) (swp_permIn d 0 N i j (by omega) hi (by omega) hj (by omega)) (fun q _ hq => h.bd q hq) |> fun hh q hq => hh q (Nat.zero_le _) hq
set_option maxRecDepth 100000 in
set_option maxHeartbeats 4000000 in
theorem ins_c (M : Nat) (key : Nat → Nat) (a b : Nat) (hab : a ≤ b) (hb : b ≤ N) (hN : N ≤ 1000) (hc : CmpOK w g M N key) (h : Sr w g cap N d V) :
    Calls Tryd.prog 123 #[.slice (some ⟨g, 0, none⟩) N cap, .int .i64 (a : Int), .int .i64 (b : Int), .func (.func 76) #[] #[.pointer (some ⟨M, 0, none⟩)]] V fun e w' => e = .returned (.tuple #[]) ∧ Sr w g cap N (insertionSort (ky key) d a b) w' := by
  have HC := Lib.hid hc
  have H := Lib.hid h
  clear hc h
  go_enter Tryd.func123, Tryd.ntmps123
  go_wp2
  go_loopw [8, 9] (fun vi _ V => ∃ (i : Nat) (dk : Array Nat), vi = .int .i64 (i : Int) ∧ a < i ∧ i ≤ b + 1 ∧ Sr w g cap N dk V ∧ Hid (insOuter (ky key) a b i dk = insOuter (ky key) a b (a + 1) d)) (fun vi _ _ => b + 1 - (intOf vi).toNat)
  case atStart => exact ⟨a + 1, d, by go_num, by omega, by omega, H.out, rfl⟩
  case round =>
    obtain ⟨i, dk, rfl, hai, hib, hs, HO⟩ := hrel
    have HS := Lib.hid hs
    clear hs
    by_cases hlt : i < b
    · have hltz : (i : Int) < (b : Int) := by omega
      go_wp2
      go_loopw [9] (fun vj V => ∃ (j : Nat) (dj : Array Nat), vj = .int .i64 (j : Int) ∧ a ≤ j ∧ j ≤ i ∧ Sr w g cap N dj V ∧ Hid (insInner (ky key) a j dj = insInner (ky key) a i dk)) (fun vj _ => (intOf vj).toNat)
      case atStart => exact ⟨i, dk, rfl, by omega, Nat.le_refl _, HS.out, rfl⟩
      case round =>
        obtain ⟨j, dj, rfl, haj, hji, hsj, HI⟩ := hrel
        have out : (j ≤ a ∨ ky key dj[j]! dj[j - 1]! = false) → Hid (insOuter (ky key) a b (i + 1) dj = insOuter (ky key) a b (a + 1) d) := fun hst => by
          show _ = _
          rw [← HO.out, insOuter_go _ _ _ _ _ hlt, ← HI.out, insInner_stop _ _ _ _ hst]
        have OUT := Lib.hid out
        have HSj := Lib.hid hsj
        clear out hsj
        by_cases hja : a < j
        · obtain ⟨jp, rfl⟩ : ∃ jp, j = jp + 1 := ⟨j - 1, by omega⟩
          have cj := HSj.out.cell (jp + 1) (by omega)
          have cp := HSj.out.cell jp (by omega)
          have fj := HSj.out.row.fr (jp + 1)
          have fp := HSj.out.row.fr jp
          have bx := HSj.out.bd (jp + 1) (by omega)
          have bp := HSj.out.bd jp (by omega)
          obtain ⟨xj, hxj⟩ : ∃ x, dj[jp + 1]! = x := ⟨_, rfl⟩
          obtain ⟨xp, hxp⟩ : ∃ x, dj[jp]! = x := ⟨_, rfl⟩
          rw [hxj] at cj bx
          rw [hxp] at cp bp
          have hcl : ∀ n, Calls Tryd.prog 76 #[.int .i64 (xj : Int), .int .i64 (xp : Int), .pointer (some ⟨M, 0, none⟩)] (wr.drewN n) fun e w' => e = .returned (.int .i64 (cmp3 (key xp) (key xj))) ∧ wr.drewN n = w' := fun n => HC.out xj xp bx bp _ (HSj.out.mod.drewN n)
          have hky : decide (cmp3 (key xp) (key xj) < 0) = ky key xj xp := by rw [cmp3_neg]; rfl
          obtain ⟨Z, hZ⟩ : ∃ Z, cmp3 (key xp) (key xj) = Z := ⟨_, rfl⟩
          rw [hZ] at hky
          rw [hZ] at hcl
          have HCl := Lib.hid hcl
          have HX := Lib.hid (And.intro hxj hxp)
          have jz : (jp : Int) + 1 < (N : Int) := by omega
          have jz1 : (jp : Int) < (N : Int) := by omega
          have hjaz : (a : Int) < (jp : Int) + 1 := by omega
          have hjd : decide ((a : Int) < (jp : Int) + 1) = true := by simp; omega
          have hjn : decide (a < jp + 1) = true := by simp; omega
          have p0 : (0 : Int) ≤ (jp : Int) + 1 := by omega
          have e0 : ((jp : Int) + 1).toNat = jp + 1 := by omega
          have hwp : IntKind.i64.wrap (jp : Int) = (jp : Int) := by rw [IntKind.wrap_i64]; omega
          clear hxj hxp hcl hZ
          cases hk : ky key xj xp with
          | true =>
            rw [hk] at hky
            have hZn : Z < 0 := by simpa using hky
            have HK := Lib.hid hk
            clear hk
            go_wp2_with fail
            go_quiet (exact Calls.quiet_of_same ((HCl.out _).mono fun _ _ ⟨h1, h2⟩ => ⟨h1, h2.symm⟩))
            go_wp2_with fail
            obtain ⟨Wq, hWq⟩ : ∃ Wq, wr.drewN nq = Wq := ⟨_, rfl⟩
            have hq := HSj.out.drewN nq
            rw [hWq] at hq
            have cj2 := hq.cell (jp + 1) (by omega)
            have cp2 := hq.cell jp (by omega)
            have fj2 := hq.row.fr (jp + 1)
            have fp2 := hq.row.fr jp
            have hsw := hq.swap (jp + 1) jp (by omega) (by omega)
            rw [HX.out.1, HX.out.2] at hsw
            rw [HX.out.1] at cj2
            rw [HX.out.2] at cp2
            obtain ⟨j1, hj1⟩ : ∃ j1, j1 = jp + 1 := ⟨_, rfl⟩
            rw [← hj1] at cj2 fj2 e0 hsw
            have J1 := Lib.hid hj1
            have HSw := Lib.hid hsw
            have HWq := Lib.hid hWq
            have hne : j1 ≠ jp := by omega
            clear hq hsw hWq hj1 cj cp fj fp
            rw [HWq.out]
            go_region
            all_goals go_wp2
            go_roundw
            case rel =>
              have hin : Hid (insInner (ky key) a jp (swp dj j1 jp) = insInner (ky key) a i dk) := by
                show _ = _
                have := insInner_go (lt := ky key) a (jp + 1) dj hja (by simp only [Nat.add_sub_cancel]; rw [HX.out.1, HX.out.2]; exact HK.out)
                simp only [Nat.add_sub_cancel] at this
                rw [J1.out, ← this]
                exact HI.out
              exact ⟨jp, swp dj j1 jp, by first | rfl | go_num, by omega, by omega, by first | exact HSw.out | exact HSw.out.drew, hin⟩
            case measure => simp [intOf]; try omega
          | false =>
            rw [hk] at hky
            have hfin := OUT.out (.inr (by simp only [Nat.add_sub_cancel]; rw [HX.out.1, HX.out.2]; exact hk))
            have HFin := Lib.hid hfin
            clear hk hfin
            go_wp2_with fail
            go_quiet (exact Calls.quiet_of_same ((HCl.out _).mono fun _ _ ⟨h1, h2⟩ => ⟨h1, h2.symm⟩))
            go_wp2
            go_roundw
            case rel => exact ⟨i + 1, dj, by go_num, by omega, by omega, HSj.out.drewN _, HFin.out⟩
            case measure => simp [intOf]; omega
        · have hjd : decide ((a : Int) < (j : Int)) = false := by simp; omega
          have hjn : decide (a < j) = false := by simp; omega
          have hfin := OUT.out (.inl (by omega))
          have HFin := Lib.hid hfin
          clear hfin
          go_wp2_with fail
          go_quiet (fail)
          go_wp2
          go_roundw
          case rel => exact ⟨i + 1, dj, by go_num, by omega, by omega, HSj.out.drewN _, HFin.out⟩
          case measure => simp [intOf]; omega
    · have hltz : ¬ (i : Int) < (b : Int) := by omega
      have hfin : insertionSort (ky key) d a b = dk := by
        unfold insertionSort
        rw [← HO.out, insOuter_stop _ _ _ _ _ hlt]
      have HFin := Lib.hid hfin
      clear hfin
      go_wp2
      go_end0
      exact ⟨rfl, by rw [HFin.out]; exact HS.out⟩
end Cb
end Go.Proofs.YteekonojmpihlaaDoor
