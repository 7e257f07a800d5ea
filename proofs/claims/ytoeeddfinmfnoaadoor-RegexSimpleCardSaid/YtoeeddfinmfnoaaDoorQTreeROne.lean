import Derived.Test.YtoeeddfinmfnoaaDoorQTreeRw
import Derived.Test.YtoeeddfinmfnoaaDoorQTreeOne
/- dofferref07.one: is a node by itself right? (printed by gen_rone.py) -/
namespace Go.Proofs.YtoeeddfinmfnoaaDoor
namespace Kt
end Kt
namespace St
end St
namespace Sp
end Sp
namespace Bk
end Bk
open Go Go.RowKit Kt St Sp Bk
namespace Tr
theorem neq_zero (x0 x1 x2 x3 : Nat) (w : World) : (binOp .neq 23 (.agg #[.int .u64 (x0 : Int), .int .u64 (x1 : Int), .int .u64 (x2 : Int), .int .u64 (x3 : Int)]) (.agg #[.int .u64 0, .int .u64 0, .int .u64 0, .int .u64 0])).run Tryd.prog w = .ok (.bool (!decide ([x0, x1, x2, x3] = [0, 0, 0, 0]))) w := by
  have u3 := Tryd.underlying22
  obtain ⟨i, hi⟩ : ∃ i, Tryd.prog.info? 22 = some i := Option.isSome_iff_exists.1 (by kernel_rfl)
  have hce : Tryd.prog.cellsOf 22 = 1 := by kernel_rfl
  rw [run_neq_struct, show (10000 : Nat) = 9999 + 1 from rfl, run_equalIn_array (P := Tryd.prog) w 9999 _ _ Tryd.underlying23 hi, hce]
  rw [show List.range 4 = [0, 1, 2, 3] from rfl]
  simp only [Op.eqItems]
  go_simp
  by_cases h0 : x0 = 0 <;> by_cases h1 : x1 = 0 <;> by_cases h2 : x2 = 0 <;> by_cases h3 : x3 = 0 <;> simp [h0, h1, h2, h3] <;> (intros; omega)
/-- A node by itself is right: by what its step tells. -/
def oneB (k mn mx : Int) (z : Bool) (t : List UInt8) (kl : Nat) : Bool :=
  ((z || decide (k = 1)) && ((decide (mn = 0) && decide (mx = 0)) || decide (k = 4)) && (decide (t = []) || decide (k = 5))) &&
  (if k = 1 then decide (kl = 0) else if k = 2 then true else if k = 3 then decide (2 ≤ kl)
  else if k = 4 then decide (kl = 1) && (decide (0 ≤ mn) && decide (mn ≤ 40) && (decide (mx = -1) || (decide (max mn 1 ≤ mx) && decide (mx ≤ 40))))
  else decide (k = 5) && decide (kl = 0) && Ac.nm t)
set_option maxRecDepth 100000 in
set_option maxHeartbeats 16000000 in
theorem rone_c (k mn mx : Int) (x0 x1 x2 x3 : Nat) (t : List UInt8) (ht : t.length ≤ 9223372036854775807) (lv : Int) (kl : Nat) (w : World) :
    Calls Tryd.prog 43 #[.agg #[.int .i64 k, .int .u64 (x0 : Int), .int .u64 (x1 : Int), .int .u64 (x2 : Int), .int .u64 (x3 : Int), .slice none 0 0, .int .i64 mn, .int .i64 mx, .string (Str t), .int .i64 lv, .int .i64 (kl : Int)]] w fun e w' =>
      e = .returned (.bool (oneB k mn mx (decide ([x0, x1, x2, x3] = [0, 0, 0, 0])) t kl)) ∧ Below w.heap.size w w' := by
  have he := fun w => neq_zero x0 x1 x2 x3 w
  have e1 := Ac.str_nil t
  have e2 := Ac.str_emp t
  have hnm := fun W => Ac.risname_c t ht W
  have HNm := Lib.hid hnm
  have b1 := (Below.refl w.heap.size w).alloc (Nat.le_refl _) (.cells #[.int .i64 k, .int .u64 (x0 : Int), .int .u64 (x1 : Int), .int .u64 (x2 : Int), .int .u64 (x3 : Int), .slice none 0 0, .int .i64 mn, .int .i64 mx, .string (Str t), .int .i64 lv, .int .i64 (kl : Int)] 63)
  have b2 := b1.alloc b1.size (.cells #[.int .i64 k, .int .u64 (x0 : Int), .int .u64 (x1 : Int), .int .u64 (x2 : Int), .int .u64 (x3 : Int), .slice none 0 0, .int .i64 mn, .int .i64 mx, .string (Str t)] 31)
  have HB := Lib.hid b2
  have HO := Lib.hid (show ∀ (bb : Bool), oneB k mn mx (decide ([x0, x1, x2, x3] = [0, 0, 0, 0])) t kl = bb → ∀ w', Below w.heap.size w w' → (fun e w' => e = Ending.returned (.bool (oneB k mn mx (decide ([x0, x1, x2, x3] = [0, 0, 0, 0])) t kl)) ∧ Below w.heap.size w w') (.returned (.bool bb)) w' from fun bb h1 w' h2 => ⟨by rw [h1], h2⟩)
  clear hnm b1 b2 ht
  generalize hz : decide ([x0, x1, x2, x3] = [0, 0, 0, 0]) = z at *
  generalize hte : decide (t = []) = te at *
  generalize hnn : Ac.nm t = nn at *
  clear hz

  by_cases k1 : k = 1
  · subst k1
    by_cases hm : mn = 0
    · subst hm
      by_cases hM : mx = 0
      · subst hM
        cases te with
        | false =>
          have HP := Lib.hid (HO.out false (by simp [oneB, hte]))
          clear HO
          go_enter Tryd.func43, Tryd.ntmps43
          go_wp2
          go_ret
          exact HP.out _ HB.out
        | true =>
          have hkd : decide (kl = 0) = ((kl : Int) == 0) := by by_cases h : kl = 0 <;> simp [h]
          have HP := Lib.hid (HO.out ((kl : Int) == 0) (by simp [oneB, hkd, hte]))
          clear HO
          go_enter Tryd.func43, Tryd.ntmps43
          go_wp2
          go_ret
          exact HP.out _ HB.out
      · have hMb : (mx == 0) = false := by simpa using hM
        have hMn : (mx != 0) = true := by simpa using hM
        have HP := Lib.hid (HO.out false (by simp [oneB, hM]))
        clear HO
        go_enter Tryd.func43, Tryd.ntmps43
        go_wp2
        go_ret
        exact HP.out _ HB.out
    · have hmb : (mn == 0) = false := by simpa using hm
      have hmn : (mn != 0) = true := by simpa using hm
      have HP := Lib.hid (HO.out false (by simp [oneB, hm]))
      clear HO
      go_enter Tryd.func43, Tryd.ntmps43
      go_wp2
      go_ret
      exact HP.out _ HB.out
  · have b1 : (k == 1) = false := by simpa using k1
    have c1 : (k != 1) = true := by simpa using k1
    by_cases k2 : k = 2
    · subst k2
      cases z with
      | false =>
        have HP := Lib.hid (HO.out false (by simp [oneB]))
        clear HO
        go_enter Tryd.func43, Tryd.ntmps43
        go_wp2
        go_ret
        exact HP.out _ HB.out
      | true =>
        by_cases hm : mn = 0
        · subst hm
          by_cases hM : mx = 0
          · subst hM
            cases te with
            | false =>
              have HP := Lib.hid (HO.out false (by simp [oneB, hte]))
              clear HO
              go_enter Tryd.func43, Tryd.ntmps43
              go_wp2
              go_ret
              exact HP.out _ HB.out
            | true =>
              have HP := Lib.hid (HO.out true (by simp [oneB, hte]))
              clear HO
              go_enter Tryd.func43, Tryd.ntmps43
              go_wp2
              go_ret
              exact HP.out _ HB.out
          · have hMb : (mx == 0) = false := by simpa using hM
            have hMn : (mx != 0) = true := by simpa using hM
            have HP := Lib.hid (HO.out false (by simp [oneB, hM]))
            clear HO
            go_enter Tryd.func43, Tryd.ntmps43
            go_wp2
            go_ret
            exact HP.out _ HB.out
        · have hmb : (mn == 0) = false := by simpa using hm
          have hmn : (mn != 0) = true := by simpa using hm
          have HP := Lib.hid (HO.out false (by simp [oneB, hm]))
          clear HO
          go_enter Tryd.func43, Tryd.ntmps43
          go_wp2
          go_ret
          exact HP.out _ HB.out
    · have b2 : (k == 2) = false := by simpa using k2
      have c2 : (k != 2) = true := by simpa using k2
      by_cases k3 : k = 3
      · subst k3
        cases z with
        | false =>
          have HP := Lib.hid (HO.out false (by simp [oneB]))
          clear HO
          go_enter Tryd.func43, Tryd.ntmps43
          go_wp2
          go_ret
          exact HP.out _ HB.out
        | true =>
          by_cases hm : mn = 0
          · subst hm
            by_cases hM : mx = 0
            · subst hM
              cases te with
              | false =>
                have HP := Lib.hid (HO.out false (by simp [oneB, hte]))
                clear HO
                go_enter Tryd.func43, Tryd.ntmps43
                go_wp2
                go_ret
                exact HP.out _ HB.out
              | true =>
                have hkd : decide (2 ≤ kl) = decide ((1 : Int) < (kl : Int)) := decide_eq_decide.2 (by omega)
                have HP := Lib.hid (HO.out (decide ((1 : Int) < (kl : Int))) (by simp only [oneB, hkd]; simp [hte]))
                clear HO
                go_enter Tryd.func43, Tryd.ntmps43
                go_wp2
                go_ret
                exact HP.out _ HB.out
            · have hMb : (mx == 0) = false := by simpa using hM
              have hMn : (mx != 0) = true := by simpa using hM
              have HP := Lib.hid (HO.out false (by simp [oneB, hM]))
              clear HO
              go_enter Tryd.func43, Tryd.ntmps43
              go_wp2
              go_ret
              exact HP.out _ HB.out
          · have hmb : (mn == 0) = false := by simpa using hm
            have hmn : (mn != 0) = true := by simpa using hm
            have HP := Lib.hid (HO.out false (by simp [oneB, hm]))
            clear HO
            go_enter Tryd.func43, Tryd.ntmps43
            go_wp2
            go_ret
            exact HP.out _ HB.out
      · have b3 : (k == 3) = false := by simpa using k3
        have c3 : (k != 3) = true := by simpa using k3
        by_cases k4 : k = 4
        · subst k4
          cases z with
          | false =>
            have HP := Lib.hid (HO.out false (by simp [oneB]))
            clear HO
            go_enter Tryd.func43, Tryd.ntmps43
            go_wp2
            go_ret
            exact HP.out _ HB.out
          | true =>
            cases te with
            | false =>
              have HP := Lib.hid (HO.out false (by simp [oneB, hte]))
              clear HO
              go_enter Tryd.func43, Tryd.ntmps43
              go_wp2
              go_ret
              exact HP.out _ HB.out
            | true =>
              by_cases h1 : kl = 1
              · subst h1
                by_cases h2 : mn < 0
                · have d2 : decide (mn < 0) = true := by simpa using h2
                  have HP := Lib.hid (HO.out false (by simp [oneB, show ¬ 0 ≤ mn by omega, hte]))
                  clear HO
                  go_enter Tryd.func43, Tryd.ntmps43
                  go_wp2
                  go_ret
                  exact HP.out _ HB.out
                · have d2 : decide (mn < 0) = false := by simpa using h2
                  by_cases h3 : 40 < mn
                  · have d3 : decide (40 < mn) = true := by simpa using h3
                    have HP := Lib.hid (HO.out false (by simp [oneB, show ¬ mn ≤ 40 by omega, hte]))
                    clear HO
                    go_enter Tryd.func43, Tryd.ntmps43
                    go_wp2
                    go_ret
                    exact HP.out _ HB.out
                  · have d3 : decide (40 < mn) = false := by simpa using h3
                    by_cases h4 : mx = -1
                    · subst h4
                      have HP := Lib.hid (HO.out true (by simp [oneB, show 0 ≤ mn by omega, show mn ≤ 40 by omega, hte]))
                      clear HO
                      go_enter Tryd.func43, Tryd.ntmps43
                      go_wp2
                      go_ret
                      exact HP.out _ HB.out
                    · have d4 : (mx == -1) = false := by simpa using h4
                      by_cases h5 : mn ≤ mx
                      · have d5 : decide (mn ≤ mx) = true := by simpa using h5
                        by_cases h6 : 1 ≤ mx
                        · have d6 : decide (1 ≤ mx) = true := by simpa using h6
                          by_cases h7 : mx ≤ 40
                          · have d7 : decide (mx ≤ 40) = true := by simpa using h7
                            have HP := Lib.hid (HO.out true (by simp [oneB, h4, h7, show 0 ≤ mn by omega, show mn ≤ 40 by omega, show max mn 1 ≤ mx by omega, hte]))
                            clear HO
                            go_enter Tryd.func43, Tryd.ntmps43
                            go_wp2
                            go_ret
                            exact HP.out _ HB.out
                          · have d7 : decide (mx ≤ 40) = false := by simpa using h7
                            have HP := Lib.hid (HO.out false (by simp [oneB, h4, h7, hte]))
                            clear HO
                            go_enter Tryd.func43, Tryd.ntmps43
                            go_wp2
                            go_ret
                            exact HP.out _ HB.out
                        · have d6 : decide (1 ≤ mx) = false := by simpa using h6
                          have HP := Lib.hid (HO.out false (by simp [oneB, h4, show ¬ max mn 1 ≤ mx by omega, hte]))
                          clear HO
                          go_enter Tryd.func43, Tryd.ntmps43
                          go_wp2
                          go_ret
                          exact HP.out _ HB.out
                      · have d5 : decide (mn ≤ mx) = false := by simpa using h5
                        have HP := Lib.hid (HO.out false (by simp [oneB, h4, show ¬ max mn 1 ≤ mx by omega, hte]))
                        clear HO
                        go_enter Tryd.func43, Tryd.ntmps43
                        go_wp2
                        go_ret
                        exact HP.out _ HB.out
              · have hk1 : ((kl : Int) == 1) = false := by simpa using fun h => h1 (by omega)
                have hk2 : ((kl : Int) != 1) = true := by simpa using fun h => h1 (by omega)
                have HP := Lib.hid (HO.out false (by simp [oneB, h1, hte]))
                clear HO
                go_enter Tryd.func43, Tryd.ntmps43
                go_wp2
                go_ret
                exact HP.out _ HB.out
        · have b4 : (k == 4) = false := by simpa using k4
          have c4 : (k != 4) = true := by simpa using k4
          by_cases k5 : k = 5
          · subst k5
            cases z with
            | false =>
              have HP := Lib.hid (HO.out false (by simp [oneB]))
              clear HO
              go_enter Tryd.func43, Tryd.ntmps43
              go_wp2
              go_ret
              exact HP.out _ HB.out
            | true =>
              by_cases hm : mn = 0
              · subst hm
                by_cases hM : mx = 0
                · subst hM
                  by_cases h1 : kl = 0
                  · subst h1
                    have HP := Lib.hid (HO.out nn (by simp [oneB, hnn]))
                    clear HO
                    go_enter Tryd.func43, Tryd.ntmps43
                    go_wp2_with (go_at_call 71; (with_reducible refine (HNm.out _).mono ?_); rintro e w3 ⟨rfl, rfl⟩)
                    go_ret
                    exact HP.out _ HB.out
                  · have hk1 : ((kl : Int) == 0) = false := by simpa using h1
                    have HP := Lib.hid (HO.out false (by simp [oneB, h1]))
                    clear HO
                    go_enter Tryd.func43, Tryd.ntmps43
                    go_wp2
                    go_ret
                    exact HP.out _ HB.out
                · have hMb : (mx == 0) = false := by simpa using hM
                  have hMn : (mx != 0) = true := by simpa using hM
                  have HP := Lib.hid (HO.out false (by simp [oneB, hM]))
                  clear HO
                  go_enter Tryd.func43, Tryd.ntmps43
                  go_wp2
                  go_ret
                  exact HP.out _ HB.out
              · have hmb : (mn == 0) = false := by simpa using hm
                have hmn : (mn != 0) = true := by simpa using hm
                have HP := Lib.hid (HO.out false (by simp [oneB, hm]))
                clear HO
                go_enter Tryd.func43, Tryd.ntmps43
                go_wp2
                go_ret
                exact HP.out _ HB.out
          · have b5 : (k == 5) = false := by simpa using k5
            have c5 : (k != 5) = true := by simpa using k5
            cases z with
            | false =>
              have HP := Lib.hid (HO.out false (by simp [oneB, k1, k2, k3, k4, k5]))
              clear HO
              go_enter Tryd.func43, Tryd.ntmps43
              go_wp2
              go_ret
              exact HP.out _ HB.out
            | true =>
              by_cases hm : mn = 0
              · subst hm
                by_cases hM : mx = 0
                · subst hM
                  cases te with
                  | false =>
                    have HP := Lib.hid (HO.out false (by simp [oneB, hte, k1, k2, k3, k4, k5]))
                    clear HO
                    go_enter Tryd.func43, Tryd.ntmps43
                    go_wp2
                    go_ret
                    exact HP.out _ HB.out
                  | true =>
                    have HP := Lib.hid (HO.out false (by simp [oneB, k1, k2, k3, k4, k5, hte]))
                    clear HO
                    go_enter Tryd.func43, Tryd.ntmps43
                    go_wp2
                    go_ret
                    exact HP.out _ HB.out
                · have hMb : (mx == 0) = false := by simpa using hM
                  have hMn : (mx != 0) = true := by simpa using hM
                  have HP := Lib.hid (HO.out false (by simp [oneB, hM, k1, k2, k3, k4, k5]))
                  clear HO
                  go_enter Tryd.func43, Tryd.ntmps43
                  go_wp2
                  go_ret
                  exact HP.out _ HB.out
              · have hmb : (mn == 0) = false := by simpa using hm
                have hmn : (mn != 0) = true := by simpa using hm
                have HP := Lib.hid (HO.out false (by simp [oneB, hm, k1, k2, k3, k4, k5]))
                clear HO
                go_enter Tryd.func43, Tryd.ntmps43
                go_wp2
                go_ret
                exact HP.out _ HB.out
end Tr
end Go.Proofs.YtoeeddfinmfnoaaDoor
