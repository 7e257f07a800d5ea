/- dofferref12: Right, Text, a word. -/
import Derived.Test.YtmfcabidmacdcaaDoorActText
namespace Go.Proofs.YtmfcabidmacdcaaDoor
open Go Go.RowKit Kt Sp
namespace Ac
variable {w W W' : World} {A : Nat → Addr}
theorem add_run {P : Program} (w : World) (a b : List UInt8) (h : a.length + b.length ≤ 9223372036854775807) : (Op.stringOp .add (Str a) (Str b)).run P w = .ok (.string (Str (a ++ b))) w := by
  have := run_string_add_sum (P := P) w (Str a) (Str b) (by rw [Str_size, Str_size]; exact h)
  rw [this]
  congr 2
theorem wd_take : ∀ (l : List UInt8) (k : Nat), (∀ j, j < k → l[j]? ≠ some 32) → (l[k]? = none ∨ l[k]? = some 32) → k ≤ l.length → wd l = l.take k
  | [], k, _, _, _ => by simp [wd]
  | c :: l, 0, _, h, _ => by
    have : c = 32 := by simpa using h
    simp [wd, this]
  | c :: l, k + 1, h1, h2, h3 => by
    have hc : c ≠ 32 := by have := h1 0 (by omega); simpa using this
    have ih := wd_take l k (fun j hj => by have := h1 (j + 1) (by omega); simpa using this) (by simpa using h2) (by simpa using h3)
    simp [wd, hc, ih]
set_option maxHeartbeats 2000000 in
set_option maxRecDepth 100000 in
theorem word_c (l : List UInt8) (hl : l.length ≤ 1000000) (i : Nat) (hi : i ≤ l.length) (w : World) : Calls Tryd.prog 68 #[.string (Str l), .int .i64 (i : Int)] w fun e w' => e = .returned (.string (Str (wd (l.drop i)))) ∧ w = w' := by
  have hsz := Str_size l
  have hend : ∀ k, i ≤ k → k ≤ l.length → (∀ j, i ≤ j → j < k → l[j]? ≠ some 32) → (l[k]? = none ∨ l[k]? = some 32) → (Str l).extract i k = Str (wd (l.drop i)) := by
    intro k h1 h2 h3 h4
    rw [Lib.extract_eq, Str_toList, wd_take (l.drop i) (k - i) (fun j hj => by rw [List.getElem?_drop]; exact h3 _ (by omega) (by omega)) (by rw [List.getElem?_drop, show i + (k - i) = k by omega]; exact h4) (by rw [List.length_drop]; omega)]
    rfl
  have hg := str_get l
  obtain ⟨s, hs⟩ : ∃ s, Str l = s := ⟨_, rfl⟩
  have hg := hg s hs
  rw [hs] at hsz hend ⊢
  have hsl : s.size ≤ 1000000 := by omega
  have his : i ≤ s.size := by omega
  have HS := Lib.hid hsz
  have HG := Lib.hid hg
  have HE := Lib.hid hend
  clear hsz hg hend hs hl hi
  go_enter Tryd.func68, Tryd.ntmps68
  go_wp2
  go_loop [5] (fun v => ∃ k : Nat, i ≤ k ∧ k ≤ s.size ∧ v = .int .i64 k ∧ ∀ j, i ≤ j → j < k → l[j]? ≠ some 32) (fun v => s.size - (intOf v).toNat)
  case atStart => exact ⟨i, Nat.le_refl _, his, rfl, fun j h1 h2 => by omega⟩
  case round =>
    obtain ⟨k, hik, hk, rfl, hn⟩ := hrel
    have HN := Lib.hid hn
    clear hn
    by_cases hlt : k < s.size
    · have hc := HG.out k hlt
      by_cases h32 : s[k].toNat = 32
      · have hc' : l[k]? = some 32 := by rw [hc]; congr 1; exact UInt8.toNat_inj.1 (by rw [h32]; rfl)
        have hx := HE.out k hik (by rw [← HS.out]; exact hk) HN.out (.inr hc')
        have HX := Lib.hid hx
        have e1 : ((s[k].toNat : Int) == 32) = true := by rw [h32]; rfl
        have e2 : ((s[k].toNat : Int) != 32) = false := by simp [bne, e1]
        clear hc hc' hx h32
        go_wp2
        go_ret
        exact ⟨by rw [← HX.out]; first | rfl | simp, rfl⟩
      · have hx : ∀ j, i ≤ j → j < k + 1 → l[j]? ≠ some 32 := by
          intro j h1 h2
          rcases Nat.lt_succ_iff_lt_or_eq.1 h2 with h3 | rfl
          · exact HN.out j h1 h3
          · rw [hc]
            intro e
            simp only [Option.some.injEq] at e
            exact h32 (by rw [e]; rfl)
        have HX := Lib.hid hx
        have e1 : ((s[k].toNat : Int) == 32) = false := by simp; omega
        have e2 : ((s[k].toNat : Int) != 32) = true := by simp [bne, e1]
        clear hc hx h32
        go_wp2
        go_round
        case rel => exact ⟨k + 1, by omega, by omega, by go_num, HX.out⟩
        case measure => simp [intOf]; omega
    · obtain rfl : k = s.size := by omega
      have hx := HE.out s.size hik (by rw [← HS.out]; exact Nat.le_refl _) HN.out (.inl (by rw [List.getElem?_eq_none]; rw [← HS.out]; exact Nat.le_refl _))
      have HX := Lib.hid hx
      clear hx hk hlt
      go_wp2
      go_ret
      exact ⟨by rw [← HX.out]; first | rfl | simp, rfl⟩
set_option maxHeartbeats 4000000 in
set_option maxRecDepth 100000 in
theorem rright_c (e b : List UInt8) (he : e.length ≤ 1000000) (hb : b.length ≤ 1000000) (w : World) : Calls Tryd.prog 30 #[.agg #[.string (Str e), .string (Str b)]] w fun r w' => r = .returned (.bool (may e && may b)) ∧ Below w.heap.size w w' := by
  have HE := Lib.hid (fun w => risname_c e he w)
  have HB := Lib.hid (fun w => risname_c b hb w)
  have HBe := Lib.hid ((Below.refl w.heap.size w).alloc (Nat.le_refl _) (.cells #[.string (Str e), .string (Str b)] 55))
  have e1 := str_nil e
  have e2 := str_emp e
  have e3 := str_nil b
  have e4 := str_emp b
  have hme : may e = (decide (e = []) || nm e) := rfl
  have hmb : may b = (decide (b = []) || nm b) := rfl
  obtain ⟨R, hR⟩ : ∃ R, (may e && may b) = R := ⟨_, rfl⟩
  rw [hR]
  rw [hme, hmb] at hR
  clear he hb hme hmb
  by_cases h0 : e = []
  · simp only [h0, decide_true, Bool.true_or, Bool.true_and] at e1 e2 hR
    have e5 : (Str e).toList = [] := by rw [Str_list]; exact h0
    by_cases h1 : b = []
    · simp only [h1, decide_true, Bool.true_or] at e3 e4 hR
      have e6 : (Str b).toList = [] := by rw [Str_list]; exact h1
      subst hR
      clear h0 h1
      go_enter Tryd.func30, Tryd.ntmps30
      go_wp2_with fail
      go_ret
      exact ⟨by first | rfl | simp, HBe.out⟩
    · simp only [h1, decide_false, Bool.false_or] at e3 e4 hR
      have HR := Lib.hid hR
      clear h0 h1 hR
      go_enter Tryd.func30, Tryd.ntmps30
      go_wp2_with (go_at_call 67; (with_reducible refine (HB.out _).mono ?_); rintro e w' ⟨rfl, rfl⟩)
      go_ret
      exact ⟨by rw [← HR.out]; first | rfl | simp, HBe.out⟩
  · simp only [h0, decide_false, Bool.false_or] at e1 e2 hR
    clear h0
    generalize nm e = ne at *
    by_cases h1 : b = []
    · simp only [h1, decide_true, Bool.true_or, Bool.and_true] at e3 e4 hR
      have e6 : (Str b).toList = [] := by rw [Str_list]; exact h1
      subst hR
      clear h1
      cases ne
      all_goals
        go_enter Tryd.func30, Tryd.ntmps30
        go_wp2_with (go_at_call 67; (with_reducible refine (HE.out _).mono ?_); rintro e w' ⟨rfl, rfl⟩)
        go_ret
        exact ⟨by first | rfl | simp, HBe.out⟩
    · simp only [h1, decide_false, Bool.false_or] at e3 e4 hR
      have HR := Lib.hid hR
      clear h1 hR
      generalize nm b = nb at *
      cases ne
      · go_enter Tryd.func30, Tryd.ntmps30
        go_wp2_with (go_at_call 67; (with_reducible refine (HE.out _).mono ?_); rintro e w' ⟨rfl, rfl⟩)
        go_ret
        exact ⟨by rw [← HR.out]; first | rfl | simp, HBe.out⟩
      · go_enter Tryd.func30, Tryd.ntmps30
        go_wp2_with (first
          | (go_at_call 67; (with_reducible refine (HE.out _).mono ?_); rintro e w' ⟨rfl, rfl⟩; clear HE)
          | (go_at_call 67; (with_reducible refine (HB.out _).mono ?_); rintro e w' ⟨rfl, rfl⟩; clear HB))
        go_ret
        exact ⟨by rw [← HR.out]; first | rfl | simp, HBe.out⟩
set_option maxHeartbeats 4000000 in
set_option maxRecDepth 100000 in
theorem rtext_c (e b : List UInt8) (he : e.length ≤ 1000000) (hb : b.length ≤ 1000000) (w : World) : Calls Tryd.prog 31 #[.agg #[.string (Str e), .string (Str b)]] w fun r w' => r = .returned (.string (Str (join (txt e b)))) ∧ Below w.heap.size w w' := by
  have HBe := Lib.hid ((Below.refl w.heap.size w).alloc (Nat.le_refl _) (.cells #[.string (Str e), .string (Str b)] 55))
  have e1 := str_nil e
  have e2 := str_emp e
  have e3 := str_nil b
  have e4 := str_emp b
  have a1 : ∀ w, (Op.stringOp .add ⟨#[101, 109, 105, 116, 32]⟩ (Str e)).run Tryd.prog w = .ok (.string (Str ([101, 109, 105, 116, 32] ++ e))) w := fun w => add_run w [101, 109, 105, 116, 32] e (by simp; omega)
  have a2 : ∀ w, (Op.stringOp .add ⟨#[32, 98, 101, 103, 105, 110, 32]⟩ (Str b)).run Tryd.prog w = .ok (.string (Str ([32, 98, 101, 103, 105, 110, 32] ++ b))) w := fun w => add_run w [32, 98, 101, 103, 105, 110, 32] b (by simp; omega)
  have a3 : ∀ w, (Op.stringOp .add ⟨#[115, 107, 105, 112]⟩ (Str ([32, 98, 101, 103, 105, 110, 32] ++ b))).run Tryd.prog w = .ok (.string (Str ([115, 107, 105, 112] ++ ([32, 98, 101, 103, 105, 110, 32] ++ b)))) w := fun w => add_run w [115, 107, 105, 112] ([32, 98, 101, 103, 105, 110, 32] ++ b) (by simp; omega)
  have a4 : ∀ w, (Op.stringOp .add (Str ([101, 109, 105, 116, 32] ++ e)) (Str ([32, 98, 101, 103, 105, 110, 32] ++ b))).run Tryd.prog w = .ok (.string (Str (([101, 109, 105, 116, 32] ++ e) ++ ([32, 98, 101, 103, 105, 110, 32] ++ b)))) w := fun w => add_run w ([101, 109, 105, 116, 32] ++ e) ([32, 98, 101, 103, 105, 110, 32] ++ b) (by simp; omega)
  obtain ⟨R, hR⟩ : ∃ R, join (txt e b) = R := ⟨_, rfl⟩
  rw [hR]
  clear he hb
  by_cases h0 : e = []
  · simp only [h0, decide_true] at e1 e2
    have e5 : (Str e).toList = [] := by rw [Str_list]; exact h0
    by_cases h1 : b = []
    · simp only [h1, decide_true] at e3 e4
      have e6 : (Str b).toList = [] := by rw [Str_list]; exact h1
      have hr : R = [115, 107, 105, 112] := by rw [← hR, h0, h1]; rfl
      have HR := Lib.hid hr
      clear h0 h1 hR hr
      go_enter Tryd.func31, Tryd.ntmps31
      go_wp2_with fail
      go_ret
      exact ⟨by first | rfl | (rw [HR.out]; rfl), HBe.out⟩
    · simp only [h1, decide_false] at e3 e4
      have hr : R = [115, 107, 105, 112] ++ ([32, 98, 101, 103, 105, 110, 32] ++ b) := by rw [← hR]; simp [txt, h0, h1, join, skipW, beginW]
      have HR := Lib.hid hr
      clear h0 h1 hR hr
      rw [HR.out]
      generalize Str ([115, 107, 105, 112] ++ ([32, 98, 101, 103, 105, 110, 32] ++ b)) = S3 at *
      generalize Str ([32, 98, 101, 103, 105, 110, 32] ++ b) = S2 at *
      go_enter Tryd.func31, Tryd.ntmps31
      go_wp2_with fail
      go_ret
      exact ⟨by first | rfl | (rw [HR.out]; rfl), HBe.out⟩
  · simp only [h0, decide_false] at e1 e2
    by_cases h1 : b = []
    · simp only [h1, decide_true] at e3 e4
      have e6 : (Str b).toList = [] := by rw [Str_list]; exact h1
      have hr : R = [101, 109, 105, 116, 32] ++ e := by rw [← hR]; simp [txt, h0, h1, join, emitW]
      have HR := Lib.hid hr
      clear h0 h1 hR hr
      rw [HR.out]
      generalize Str ([101, 109, 105, 116, 32] ++ e) = S1 at *
      go_enter Tryd.func31, Tryd.ntmps31
      go_wp2_with fail
      go_ret
      exact ⟨by first | rfl | simp, HBe.out⟩
    · simp only [h1, decide_false] at e3 e4
      have hr : R = ([101, 109, 105, 116, 32] ++ e) ++ ([32, 98, 101, 103, 105, 110, 32] ++ b) := by rw [← hR]; simp [txt, h0, h1, join, emitW, beginW]
      have HR := Lib.hid hr
      clear h0 h1 hR hr
      rw [HR.out]
      generalize Str (([101, 109, 105, 116, 32] ++ e) ++ ([32, 98, 101, 103, 105, 110, 32] ++ b)) = S3 at *
      generalize Str ([101, 109, 105, 116, 32] ++ e) = S1 at *
      generalize Str ([32, 98, 101, 103, 105, 110, 32] ++ b) = S2 at *
      go_enter Tryd.func31, Tryd.ntmps31
      go_wp2_with fail
      go_ret
      exact ⟨by first | rfl | simp, HBe.out⟩
end Ac
end Go.Proofs.YtmfcabidmacdcaaDoor
