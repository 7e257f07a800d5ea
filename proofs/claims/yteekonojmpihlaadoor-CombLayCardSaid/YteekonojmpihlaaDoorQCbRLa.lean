/- dofferref23: Layable. -/
import Derived.Test.YteekonojmpihlaaDoorQCbRefP
namespace Go.Proofs.YteekonojmpihlaaDoor
namespace Kt
end Kt
open Go Go.RowKit Kt
namespace Cb
def rowOk (rows : List (List Int)) (r : List Int) : Bool := decide (1 ≤ r.length) && (decide (r.length ≤ 256) && (decide (r.length = (rows.getD 0 []).length) && r.all fun n => !outb n rows.length))
theorem layable_rows (rows : List (List Int)) : layable rows = (decide (1 ≤ rows.length) && (decide (rows.length ≤ 200) && rows.all (rowOk rows))) := by
  apply Bool.eq_iff_iff.2
  unfold layable rowOk
  simp only [Bool.and_eq_true, decide_eq_true_eq, List.all_eq_true]
  constructor
  · rintro ⟨h1, h2, h3, h4, h5⟩
    exact ⟨h1, h2, fun r hr => ⟨by rw [(h5 r hr).1]; exact h3, by rw [(h5 r hr).1]; exact h4, (h5 r hr).1, (h5 r hr).2⟩⟩
  · rintro ⟨h1, h2, h3⟩
    have h0 := h3 (rows.getD 0 []) (getD_row (by omega))
    exact ⟨h1, h2, h0.1, h0.2.1, fun r hr => ⟨(h3 r hr).2.2.1, (h3 r hr).2.2.2⟩⟩
set_option maxRecDepth 100000 in
set_option maxHeartbeats 4000000 in
theorem rlayable_c (ra : Option Addr) (n rc : Nat) (L : List IRow) (rows : List (List Int)) (hL : L.map (·.l) = rows) (hn : L.length = n) (hN : n ≤ 9223372036854775807) (hM : ∀ r ∈ L, r.l.length ≤ 9223372036854775807) (w : World) (hr : Rd w ra (L.map IRow.v)) (hok : ∀ r ∈ L, r.ok w) :
    Calls Tryd.prog 41 #[.slice ra n rc] w fun e w' => e = .returned (.bool (layable rows)) ∧ w = w' := by
  have hrn : rows.length = n := by rw [← hL, List.length_map]; exact hn
  obtain ⟨LR, hLR⟩ : ∃ R, layable rows = R := ⟨_, rfl⟩
  have hly := layable_rows rows
  rw [hLR, hrn] at hly
  rw [hLR]
  have hrow : ∀ k, k < n → ∃ (b o : Nat) (rk : IRow), ra = some ⟨b, o, none⟩ ∧ w.cell? ⟨b, o + k, none⟩ = some (.slice rk.a rk.l.length rk.cap) ∧ rows.getD k [] = rk.l ∧ rk.l ∈ rows ∧ rk.l.length ≤ 9223372036854775807 ∧ (k = 0 → w.cell? ⟨b, o, none⟩ = some (.slice rk.a rk.l.length rk.cap)) ∧ ∀ j, j < rk.l.length → ∃ b2 o2, rk.a = some ⟨b2, o2, none⟩ ∧ w.cell? ⟨b2, o2 + j, none⟩ = some (.int .i64 (rk.l.getD j 0)) := fun k hk => by
    have hkL : k < L.length := by omega
    obtain ⟨b, o, ha, hc⟩ := hr.map_at k hkL
    have hg : rows[k]? = some L[k].l := by rw [← hL, List.getElem?_map, List.getElem?_eq_getElem hkL]; rfl
    refine ⟨b, o, L[k], ha, hc, by rw [List.getD_eq_getElem?_getD, hg]; rfl, List.mem_of_getElem? hg, hM _ (List.getElem_mem hkL), fun h => ?_, fun j hj => rd_i64 (hok _ (List.getElem_mem hkL)).rd j hj⟩
    subst h
    exact hc
  have HRow := Lib.hid hrow
  have HRn := Lib.hid hrn
  clear hrow hr hok hL hn hM hLR
  go_enter Tryd.func41, Tryd.ntmps41
  by_cases h1 : n < 1
  · have hi : (n : Int) < 1 := by omega
    obtain rfl : LR = false := by rw [hly, decide_eq_false (by omega : ¬ 1 ≤ n)]; rfl
    clear hly
    go_wp2
    go_ret
    exact ⟨rfl, rfl⟩
  have h1i : ¬ (n : Int) < 1 := by omega
  have h1d : decide ((n : Int) < 1) = false := by simp; omega
  rw [decide_eq_true (by omega : 1 ≤ n), Bool.true_and] at hly
  by_cases h2 : 200 < n
  · have hi : (200 : Int) < (n : Int) := by omega
    obtain rfl : LR = false := by rw [hly, decide_eq_false (by omega : ¬ n ≤ 200)]; rfl
    clear hly
    go_wp2
    go_ret
    exact ⟨rfl, rfl⟩
  have h2i : ¬ (200 : Int) < (n : Int) := by omega
  have h2d : decide ((200 : Int) < (n : Int)) = false := by simp; omega
  rw [decide_eq_true (by omega : n ≤ 200), Bool.true_and] at hly
  have HLy := Lib.hid hly
  clear hly
  obtain ⟨b, o, r0, rfl, _, hg0, _, hm0, hc00, _⟩ := HRow.out 0 (by omega)
  have hc0 := hc00 rfl
  obtain ⟨f, hf⟩ : ∃ f, r0.l.length = f := ⟨_, rfl⟩
  rw [hf] at hc0 hm0
  have HF : Hid ((rows.getD 0 []).length = f) := Lib.hid (by rw [hg0]; exact hf)
  clear hc00 hg0 hf
  go_wp2
  go_loopw [4, 6, 17, 38, 40] (fun _ _ i _ _ W => ∃ k : Nat, k ≤ n ∧ i = .int .i64 (k : Int) ∧ W = w ∧ ∀ j, j < k → rowOk rows (rows.getD j []) = true) (fun _ _ i _ _ _ => n - (intOf i).toNat)
  case atStart => exact ⟨0, Nat.zero_le _, rfl, rfl, fun j hj => by omega⟩
  case round =>
    obtain ⟨k, hk, rfl, rfl, hB⟩ := hrel
    have HB := Lib.hid hB
    clear hB
    by_cases hlt : k < n
    · obtain ⟨b', o', rk, he, hc, hg, hmem, hm, _, hnum⟩ := HRow.out k hlt
      simp only [Option.some.injEq, Addr.mk.injEq, and_true] at he
      obtain ⟨rfl, rfl⟩ := he
      have hki : (k : Int) < (n : Int) := by omega
      have HMem := Lib.hid hmem
      have HNum := Lib.hid hnum
      have HG := Lib.hid hg
      have hbad : rowOk rows rk.l = false → LR = false := fun h => by
        rw [HLy.out, List.all_eq_false]
        exact ⟨rk.l, HMem.out, by rw [h]; simp⟩
      have HBad := Lib.hid hbad
      obtain ⟨fk, hfk⟩ : ∃ f, rk.l.length = f := ⟨_, rfl⟩
      have HFk := Lib.hid hfk
      rw [hfk] at hc hm
      clear hmem hnum hg hbad hfk
      by_cases q1 : fk < 1
      · have i1 : (fk : Int) < 1 := by omega
        obtain rfl : LR = false := HBad.out (by unfold rowOk; rw [HFk.out, decide_eq_false (by omega : ¬ 1 ≤ fk)]; rfl)
        go_wp2
        go_ret
        exact ⟨rfl, rfl⟩
      have i1 : ¬ (fk : Int) < 1 := by omega
      have d1 : decide ((fk : Int) < 1) = false := by simp; omega
      by_cases q2 : 256 < fk
      · have i2 : (256 : Int) < (fk : Int) := by omega
        obtain rfl : LR = false := HBad.out (by unfold rowOk; rw [HFk.out, decide_eq_false (by omega : ¬ fk ≤ 256)]; simp)
        go_wp2
        go_ret
        exact ⟨rfl, rfl⟩
      have i2 : ¬ (256 : Int) < (fk : Int) := by omega
      have d2 : decide ((256 : Int) < (fk : Int)) = false := by simp; omega
      by_cases q3 : fk = f
      · subst q3
        obtain ⟨wo, hwo⟩ : ∃ wo, wo = wr := ⟨_, rfl⟩
        subst hwo
        go_wp2
        go_loopw [6, 40] (fun _ i W => ∃ j : Nat, j ≤ fk ∧ i = .int .i64 (j : Int) ∧ W = wo ∧ ∀ q, q < j → outb (rk.l.getD q 0) n = false) (fun _ i _ => fk - (intOf i).toNat)
        case atStart => exact ⟨0, Nat.zero_le _, rfl, rfl, fun j hj => by omega⟩
        case round =>
          obtain ⟨j, hj, rfl, rfl, hI⟩ := hrel
          have HI := Lib.hid hI
          clear hI
          by_cases hlt2 : j < fk
          · obtain ⟨b2, o2, ha2, hc2⟩ := HNum.out j (by rw [HFk.out]; exact hlt2)
            have hji : (j : Int) < (fk : Int) := by omega
            have hout : outb (rk.l.getD j 0) n = true → LR = false := fun h => HBad.out (by
              unfold rowOk
              have : (rk.l.all fun m => !outb m rows.length) = false := by
                rw [List.all_eq_false]
                exact ⟨rk.l.getD j 0, getD_num (by rw [HFk.out]; exact hlt2), by rw [HRn.out, h]; simp⟩
              rw [this]
              simp)
            have hsn : outb (rk.l.getD j 0) n = false → ∀ q, q < j + 1 → outb (rk.l.getD q 0) n = false := fun h q hq => by
              rcases Nat.lt_succ_iff_lt_or_eq.1 hq with h2 | h2
              · exact HI.out q h2
              · subst h2; exact h
            have HOut := Lib.hid hout
            have HSn := Lib.hid hsn
            clear hout hsn
            obtain ⟨X, hX⟩ : ∃ X, rk.l.getD j 0 = X := ⟨_, rfl⟩
            rw [hX] at hc2 HOut HSn
            clear hX
            generalize rk.a = RA at *
            subst ha2
            by_cases g1 : X < 0
            · obtain rfl : LR = false := HOut.out (by simp [outb, g1])
              go_wp2
              go_ret
              exact ⟨rfl, rfl⟩
            have g1d : decide (X < 0) = false := by simp; omega
            by_cases g2 : (n : Int) ≤ X
            · obtain rfl : LR = false := HOut.out (by simp [outb, g2])
              go_wp2
              go_ret
              exact ⟨rfl, rfl⟩
            have g2d : decide ((n : Int) ≤ X) = false := by simp; omega
            have HNx := Lib.hid (HSn.out (by simp only [outb, Bool.or_eq_false_iff, decide_eq_false_iff_not]; exact ⟨g1, g2⟩))
            go_wp2
            go_roundw
            case rel => exact ⟨j + 1, hlt2, by go_num, (by first | trivial | rfl), HNx.out⟩
            case measure => simp [intOf]; omega
          · obtain rfl : j = fk := by omega
            have hlt' : ¬ ((j : Int) < (j : Int)) := by omega
            have HNx : Hid (∀ q, q < k + 1 → rowOk rows (rows.getD q []) = true) := Lib.hid fun q hq => by
              rcases Nat.lt_succ_iff_lt_or_eq.1 hq with h2 | h2
              · exact HB.out q h2
              · subst h2
                rw [HG.out]
                unfold rowOk
                rw [HFk.out, HF.out, decide_eq_true (by omega : 1 ≤ j), decide_eq_true (by omega : j ≤ 256), decide_eq_true rfl, Bool.true_and, Bool.true_and, Bool.true_and, List.all_eq_true]
                intro m hm2
                obtain ⟨t, ht, hte⟩ := List.getElem_of_mem hm2
                have := HI.out t (by rw [← HFk.out]; exact ht)
                rw [List.getD_eq_getElem?_getD, List.getElem?_eq_getElem ht, Option.getD_some, hte] at this
                rw [HRn.out, this]
                rfl
            go_wp2
            go_roundw
            case rel => exact ⟨k + 1, hlt, by go_num, (by first | trivial | rfl), HNx.out⟩
            case measure => simp [intOf]; omega
      · have i3 : ((fk : Int) == (f : Int)) = false := by simp; omega
        have d3 : decide ((fk : Int) = (f : Int)) = false := by simp; omega
        have e3 : ¬ (fk : Int) = (f : Int) := by omega
        obtain rfl : LR = false := HBad.out (by unfold rowOk; rw [HFk.out, HF.out, decide_eq_false q3]; simp)
        go_wp2
        go_ret
        exact ⟨rfl, rfl⟩
    · obtain rfl : k = n := by omega
      have hlt' : ¬ ((k : Int) < (k : Int)) := by omega
      obtain rfl : LR = true := by
        rw [HLy.out, List.all_eq_true]
        intro r hr
        obtain ⟨j, hj, he⟩ := List.getElem_of_mem hr
        have := HB.out j (by rw [← HRn.out]; exact hj)
        rw [List.getD_eq_getElem?_getD, List.getElem?_eq_getElem hj, he] at this
        simpa using this
      go_wp2
      go_ret
      exact ⟨rfl, rfl⟩
end Cb
end Go.Proofs.YteekonojmpihlaaDoor
