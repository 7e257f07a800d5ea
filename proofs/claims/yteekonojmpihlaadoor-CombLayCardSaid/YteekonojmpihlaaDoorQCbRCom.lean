/- dofferref23: Common, Own. -/
import Derived.Test.YteekonojmpihlaaDoorQCbRefP
namespace Go.Proofs.YteekonojmpihlaaDoor
namespace Kt
end Kt
open Go Go.RowKit Kt
namespace Cb
set_option maxRecDepth 100000 in
set_option maxHeartbeats 4000000 in
theorem rcommon_c (row : List Int) (ra : Option Addr) (f rc many : Nat) (hf : row.length = f) (hf2 : f ≤ 100000) (h0 : row ≠ []) (hm : many ≤ 100000) (hr : ∀ x ∈ row, 0 ≤ x ∧ x < (many : Int)) (w : World) (hrd : Rd w ra (i64s row)) :
    Calls Tryd.prog 82 #[.slice ra f rc, .int .i64 (many : Int)] w fun e w' => e = .returned (.int .i64 (cmn row)) ∧ w = w' := by
  obtain ⟨C, hC⟩ : ∃ C, cmn row = C := ⟨_, rfl⟩
  have hfin : ∀ (best : Int) (most : Nat), ComI row many best most → best = C := fun best most h => (h.fin h0 hr).trans hC
  have hcell : ∀ k, k < f → ∃ b o, ra = some ⟨b, o, none⟩ ∧ w.cell? ⟨b, o + k, none⟩ = some (.int .i64 (row.getD k 0)) := fun k hk => rd_i64 hrd k (by rw [hf]; exact hk)
  have hcnt : ∀ n : Nat, row.count (n : Int) ≤ f := fun n => by rw [← hf]; exact List.count_le_length
  have hcs : ∀ (n k : Nat), k < f → cntP row (n : Int) (k + 1) = if row.getD k 0 = (n : Int) then cntP row (n : Int) k + 1 else cntP row (n : Int) k := fun n k hk => cntP_succ (by rw [hf]; exact hk)
  have hca : ∀ n : Nat, cntP row (n : Int) f = row.count (n : Int) := fun n => by rw [← hf]; exact cntP_all row n
  have hcle : ∀ (n k : Nat), cntP row (n : Int) k ≤ k := fun n k => by unfold cntP; exact Nat.le_trans List.count_le_length (by rw [List.length_take]; omega)
  have HFin := Lib.hid hfin
  have HCell := Lib.hid hcell
  have HCnt := Lib.hid hcnt
  have HCs := Lib.hid hcs
  have HCa := Lib.hid hca
  have HCle := Lib.hid hcle
  rw [hC]
  clear hfin hcell hcnt hcs hca hcle hrd hr h0 hf hC
  go_enter Tryd.func82, Tryd.ntmps82
  go_wp2
  go_loopw [5, 6, 7, 8, 10, 16, 17, 18] (fun vb vm vn _ _ _ _ _ W => ∃ (n most : Nat) (best : Int), n ≤ many ∧ vb = .int .i64 best ∧ vm = .int .i64 (most : Int) ∧ vn = .int .i64 (n : Int) ∧ most ≤ 100000 ∧ ComI row n best most ∧ W = w) (fun _ _ vn _ _ _ _ _ _ => many - (intOf vn).toNat)
  case atStart => exact ⟨0, 0, 0, Nat.zero_le _, rfl, rfl, rfl, Nat.zero_le _, ComI.nil row, rfl⟩
  case round =>
    obtain ⟨n, most, best, hn, rfl, rfl, rfl, hmo, hI, rfl⟩ := hrel
    have HI := Lib.hid hI
    clear hI
    by_cases hlt : n < many
    · have hni : (n : Int) < (many : Int) := by omega
      obtain ⟨wo, hwo⟩ : ∃ wo, wo = wr := ⟨_, rfl⟩
      subst hwo
      go_wp2
      go_loopw [8, 10, 18] (fun vk _ vi W => ∃ k : Nat, k ≤ f ∧ vi = .int .i64 (k : Int) ∧ vk = .int .i64 (cntP row (n : Int) k : Nat) ∧ W = wo) (fun _ _ vi _ => f - (intOf vi).toNat)
      case atStart => exact ⟨0, Nat.zero_le _, rfl, rfl, rfl⟩
      case round =>
        obtain ⟨k, hk, rfl, rfl, rfl⟩ := hrel
        by_cases hlt2 : k < f
        · obtain ⟨b, o, rfl, hc⟩ := HCell.out k hlt2
          have hki : (k : Int) < (f : Int) := by omega
          have hs := HCs.out n k hlt2
          have hle := HCle.out n k
          obtain ⟨T, hT⟩ : ∃ T, cntP row (n : Int) k = T := ⟨_, rfl⟩
          rw [hT] at hs hle
          rw [hT]
          have HS := Lib.hid hs
          clear hs hT
          by_cases hx : row.getD k 0 = (n : Int)
          · rw [hx] at hc
            have HX := Lib.hid hx
            clear hx
            go_wp2
            go_roundw
            case rel => exact ⟨k + 1, hlt2, by go_num, by rw [HS.out, if_pos HX.out]; go_num, (by first | trivial | rfl)⟩
            case measure => simp [intOf]; omega
          · have hxb : (row.getD k 0 == (n : Int)) = false := by simpa using hx
            have hxd : decide (row.getD k 0 = (n : Int)) = false := by simpa using hx
            have HX := Lib.hid hx
            clear hx
            generalize row.getD k 0 = X at *
            go_wp2
            go_roundw
            case rel => exact ⟨k + 1, hlt2, by go_num, by rw [HS.out, if_neg HX.out], (by first | trivial | rfl)⟩
            case measure => simp [intOf]; omega
        · obtain rfl : k = f := by omega
          have hlt' : ¬ ((k : Int) < (k : Int)) := by omega
          have hle := HCle.out n k
          have hca := HCa.out n
          rw [hca] at hle
          rw [hca]
          clear hca
          by_cases hb : most < row.count (n : Int)
          · have hg : (most : Int) < (row.count (n : Int) : Int) := by omega
            have HM := Lib.hid (HI.out.more hb)
            clear hb
            generalize row.count (n : Int) = Q at *
            go_wp2
            go_roundw
            case rel => exact ⟨n + 1, Q, n, hlt, rfl, rfl, by go_num, by omega, HM.out, (by first | trivial | rfl)⟩
            case measure => simp [intOf]; omega
          · have hg : ¬ (most : Int) < (row.count (n : Int) : Int) := by omega
            have HM := Lib.hid (HI.out.less hb)
            clear hb
            generalize row.count (n : Int) = Q at *
            go_wp2
            go_roundw
            case rel => exact ⟨n + 1, most, best, hlt, rfl, rfl, by go_num, hmo, HM.out, (by first | trivial | rfl)⟩
            case measure => simp [intOf]; omega
    · obtain rfl : n = many := by omega
      have hlt' : ¬ ((n : Int) < (n : Int)) := by omega
      obtain rfl := HFin.out best most HI.out
      go_wp2
      go_ret
      exact ⟨rfl, rfl⟩
set_option maxRecDepth 100000 in
set_option maxHeartbeats 4000000 in
theorem rown_c (row : List Int) (ra : Option Addr) (f rc many : Nat) (hf : row.length = f) (hf2 : f ≤ 100000) (h0 : row ≠ []) (hm : many ≤ 100000) (hr : ∀ x ∈ row, 0 ≤ x ∧ x < (many : Int)) (w : World) (hrd : Rd w ra (i64s row)) :
    Calls Tryd.prog 42 #[.slice ra f rc, .int .i64 (many : Int)] w fun e w' => e = .returned (.int .i64 (ownN row : Nat)) ∧ w = w' := by
  have hcom := rcommon_c row ra f rc many hf hf2 h0 hm hr w hrd
  obtain ⟨C, hC⟩ : ∃ C, cmn row = C := ⟨_, rfl⟩
  rw [hC] at hcom
  have hcell : ∀ k, k < f → ∃ b o, ra = some ⟨b, o, none⟩ ∧ w.cell? ⟨b, o + k, none⟩ = some (.int .i64 (row.getD k 0)) := fun k hk => rd_i64 hrd k (by rw [hf]; exact hk)
  have hy : ∀ k, row.getD k 0 ≠ C → (ownQ row (k + 1)).length = (ownQ row k).length + 1 := fun k h => by rw [ownQ_yes (by rw [hC]; exact h), List.length_append]; rfl
  have hno : ∀ k, row.getD k 0 = C → (ownQ row (k + 1)).length = (ownQ row k).length := fun k h => by rw [ownQ_no (by rw [hC]; exact h)]
  have hle : ∀ k, (ownQ row k).length ≤ k := fun k => by unfold ownQ; exact Nat.le_trans (List.length_filter_le _ _) (by rw [List.length_range]; exact Nat.le_refl _)
  have hall : (ownQ row f).length = ownN row := by rw [← hf]; rfl
  have HCom := Lib.hid hcom
  have HCell := Lib.hid hcell
  have HY := Lib.hid hy
  have HNo := Lib.hid hno
  have HLe := Lib.hid hle
  rw [← hall]
  clear hcom hcell hy hno hle hrd hr h0 hf hC hall
  go_enter Tryd.func42, Tryd.ntmps42
  go_wp2_with fail
  refine HCom.out.mono ?_
  rintro _ w2 ⟨rfl, rfl⟩
  go_wp2
  go_loopw [6, 8, 14] (fun vk _ vi W => ∃ k : Nat, k ≤ f ∧ vi = .int .i64 (k : Int) ∧ vk = .int .i64 ((ownQ row k).length : Nat) ∧ W = w) (fun _ _ vi _ => f - (intOf vi).toNat)
  case atStart => exact ⟨0, Nat.zero_le _, rfl, rfl, rfl⟩
  case round =>
    obtain ⟨k, hk, rfl, rfl, rfl⟩ := hrel
    by_cases hlt : k < f
    · obtain ⟨b, o, rfl, hc⟩ := HCell.out k hlt
      have hki : (k : Int) < (f : Int) := by omega
      have hle := HLe.out k
      obtain ⟨T, hT⟩ : ∃ T, (ownQ row k).length = T := ⟨_, rfl⟩
      rw [hT] at hle
      rw [hT]
      have HT := Lib.hid hT
      clear hT
      by_cases hx : row.getD k 0 = C
      · have HX := Lib.hid ((HNo.out k hx).trans HT.out)
        rw [hx] at hc
        clear hx
        go_wp2
        go_roundw
        case rel => exact ⟨k + 1, hlt, by go_num, by rw [HX.out], (by first | trivial | rfl)⟩
        case measure => simp [intOf]; omega
      · have HX := Lib.hid ((HY.out k hx).trans (congrArg (· + 1) HT.out))
        have hxb : (row.getD k 0 == C) = false := by simpa using hx
        have hxd : decide (row.getD k 0 = C) = false := by simpa using hx
        clear hx
        generalize row.getD k 0 = X at *
        go_wp2
        go_roundw
        case rel => exact ⟨k + 1, hlt, by go_num, by rw [HX.out]; go_num, (by first | trivial | rfl)⟩
        case measure => simp [intOf]; omega
    · obtain rfl : k = f := by omega
      have hlt' : ¬ ((k : Int) < (k : Int)) := by omega
      go_wp2
      go_ret
      exact ⟨rfl, rfl⟩
end Cb
end Go.Proofs.YteekonojmpihlaaDoor
