/- (*chain.Chain).Clear, slices.Contains over ints, chain.New. Condition: the sentinels read as laid. -/
import Derived.Test.YtpjimmdpcpcmoaaDoorQChnDrop2
namespace Go.Proofs.YtpjimmdpcpcmoaaDoor
open Go Go.RowKit Kt
namespace Ch
open Po
variable {w w' w2 w3 W : World} {k p : Nat} {L L' L2 S S' M l l' : List Nat} {m m' m2 : Md} {c c' : Cn} {acc : Int} {frm many came went : Nat}
set_option maxRecDepth 100000 in
theorem index_c (a : Option Addr) (cap : Nat) (zs : List Int) (x : Int) (w : World) (hl : zs.length ≤ 1000000) (hr : Rd w a (i64s zs)) :
    Calls Tryd.prog 76 #[.slice a zs.length cap, .int .i64 x] w fun e w' => (∃ r : Int, e = .returned (.int .i64 r) ∧ (0 ≤ r ↔ x ∈ zs)) ∧ w = w' := by
  obtain ⟨n, hn⟩ : ∃ n, zs.length = n := ⟨_, rfl⟩
  have HR := Lib.hid hr
  have HN := Lib.hid hn
  rw [hn] at hl ⊢
  clear hr hn
  go_enter Tryd.func76, Tryd.ntmps76
  go_wp2
  go_loopw [5, 8] (fun _ i W => ∃ j : Nat, j ≤ n ∧ i = .int .i64 (j : Int) ∧ (∀ q ∈ zs.take j, q ≠ x) ∧ w = W) (fun _ i _ => n - (cj i).toNat)
  case atStart => exact ⟨0, Nat.zero_le _, rfl, by simp, rfl⟩
  case round =>
    obtain ⟨j, hj, rfl, hno, rfl⟩ := hrel
    by_cases hjn : j < n
    · have hjl : j < zs.length := by rw [HN.out]; exact hjn
      obtain ⟨b, off, ha, hc⟩ := HR.out.i64 j hjl
      have hmem : zs[j] ∈ zs := List.getElem_mem hjl
      have hnx : zs.take (j + 1) = zs.take j ++ [zs[j]] := List.take_succ_eq_append_getElem hjl
      subst ha
      generalize zs[j] = y at *
      by_cases hxy : x = y
      · subst hxy
        have HM := Lib.hid hmem
        clear hno hnx hmem
        go_wp2
        go_ret
        exact ⟨⟨(j : Int), rfl, ⟨fun _ => HM.out, fun _ => by omega⟩⟩, rfl⟩
      · have hb : (x == y) = false := by simpa using hxy
        have HNo := Lib.hid (And.intro hno (And.intro hnx hxy))
        clear hno hnx hxy hmem
        go_wp2
        go_roundw
        case rel =>
          refine ⟨j + 1, by omega, by go_num, fun q hq => ?_, by first | rfl | trivial⟩
          rw [HNo.out.2.1] at hq
          rcases List.mem_append.1 hq with h | h
          · exact HNo.out.1 q h
          · simp only [List.mem_singleton] at h
            subst h
            exact fun e => HNo.out.2.2 e.symm
        case measure => simp [cj]; omega
    · obtain rfl : j = n := by omega
      have hall : x ∉ zs := fun hm => by
        have h1 := HN.out
        rw [← h1, List.take_length] at hno
        exact hno x hm rfl
      have HA := Lib.hid hall
      clear hno hall
      go_wp2
      go_ret
      exact ⟨⟨-1, rfl, ⟨fun h => by omega, fun h => absurd h HA.out⟩⟩, rfl⟩
theorem contains_c (a : Option Addr) (cap : Nat) (zs : List Int) (x : Int) (w : World) (hl : zs.length ≤ 1000000) (hr : Rd w a (i64s zs)) :
    Calls Tryd.prog 56 #[.slice a zs.length cap, .int .i64 x] w fun e w' => e = .returned (.bool (decide (x ∈ zs))) ∧ w = w' := by
  have hi := index_c a cap zs x w hl hr
  generalize zs.length = n at *
  have HI := Lib.hid hi
  clear hi hr
  go_enter Tryd.func56, Tryd.ntmps56
  go_wp2_with fail
  with_reducible refine HI.out.mono ?_
  rintro e w2 ⟨⟨r, rfl, hr⟩, rfl⟩
  by_cases h0 : 0 ≤ r
  · have hd : decide ((0 : Int) ≤ r) = true := decide_eq_true h0
    have HM := Lib.hid (decide_eq_true (hr.1 h0))
    clear hr
    go_wp2
    go_ret
    exact ⟨by rw [HM.out]; rfl, rfl⟩
  · have hd : decide ((0 : Int) ≤ r) = false := decide_eq_false h0
    have HM := Lib.hid (decide_eq_false (fun h => h0 (hr.2 h)))
    clear hr
    go_wp2
    go_ret
    exact ⟨by rw [HM.out]; rfl, rfl⟩
end Ch
end Go.Proofs.YtpjimmdpcpcmoaaDoor
