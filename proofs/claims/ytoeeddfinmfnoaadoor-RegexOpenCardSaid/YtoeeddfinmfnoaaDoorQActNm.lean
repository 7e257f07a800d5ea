import Derived.Test.YtoeeddfinmfnoaaDoorQActPure
import Derived.Test.YtoeeddfinmfnoaaDoorQSpellRead
import Derived.Test.YtoeeddfinmfnoaaDoorQTreePure
/- tree.IsName and dofferref07.IsName: right names. -/
namespace Go.Proofs.YtoeeddfinmfnoaaDoor
namespace Kt
end Kt
namespace Sp
end Sp
open Go Go.RowKit Kt Sp
namespace Ac
theorem nmAll_snoc : ∀ (l : List UInt8) (i : Nat) (c : UInt8), nmAll i (l ++ [c]) = (nmAll i l && nmAt (i + l.length) c)
  | [], i, c => by simp [nmAll]
  | x :: l, i, c => by
    rw [List.cons_append, nmAll, nmAll, nmAll_snoc l (i + 1) c, Bool.and_assoc, List.length_cons, show i + 1 + l.length = i + (l.length + 1) by omega]
theorem nmAll_take {l : List UInt8} {k : Nat} {c : UInt8} (h : l[k]? = some c) : nmAll 0 (l.take (k + 1)) = (nmAll 0 (l.take k) && nmAt k c) := by
  obtain ⟨hk, rfl⟩ := List.getElem?_eq_some_iff.1 h
  rw [List.take_succ_eq_append_getElem hk, nmAll_snoc, List.length_take, Nat.zero_add, Nat.min_eq_left (by omega)]
theorem nmAll_split {l : List UInt8} (k : Nat) : nmAll 0 l = true → nmAll 0 (l.take k) = true := by
  intro h
  have : ∀ (a b : List UInt8) (i : Nat), nmAll i (a ++ b) = true → nmAll i a = true := by
    intro a
    induction a with
    | nil => intro b i _; rfl
    | cons x a ih =>
      intro b i h
      simp only [List.cons_append, nmAll, Bool.and_eq_true] at h ⊢
      exact ⟨h.1, ih b _ h.2⟩
  have e := List.take_append_drop k l
  rw [← e] at h
  exact this _ _ _ h
theorem nm_bad {l : List UInt8} {k : Nat} (h : nmAll 0 (l.take k) = false) : nm l = false := by
  cases hn : nmAll 0 l with
  | false => simp [nm, hn]
  | true => rw [nmAll_split k hn] at h; cases h
theorem str_nil (l : List UInt8) : ((Str l).toList == []) = decide (l = []) := by
  rw [Str_list]
  cases l <;> simp
theorem str_nil' (l : List UInt8) : ((Str l).toList = []) = (l = []) := by rw [Str_list]
theorem str_emp (l : List UInt8) : (Str l).toList.isEmpty = decide (l = []) := by
  rw [Str_list]
  cases l <;> simp
theorem str_get (l : List UInt8) (s : ByteArray) (hs : Str l = s) (k : Nat) (h : k < s.size) : l[k]? = some s[k] := by
  subst hs
  have hk : k < l.length := by rw [← Str_size]; exact h
  rw [List.getElem?_eq_getElem hk]
  simp [Str, ByteArray.getElem_eq_getElem_data]
set_option maxHeartbeats 2000000 in
set_option maxRecDepth 100000 in
theorem isname_c (l : List UInt8) (hl : l.length ≤ 9223372036854775807) (w : World) : Calls Tryd.prog 84 #[.string (Str l)] w fun e w' => e = .returned (.bool (nm l)) ∧ w = w' := by
  have hsz := Str_size l
  have e1 := str_nil l
  have e2 := str_emp l
  have e3 := str_nil' l
  obtain ⟨s, hs⟩ : ∃ s, Str l = s := ⟨_, rfl⟩
  have hg := str_get l s hs
  rw [hs] at e1 e2 e3 hsz ⊢
  have hsl : s.size ≤ 9223372036854775807 := by omega
  have HS := Lib.hid hsz
  have HG := Lib.hid hg
  have HE := Lib.hid (And.intro e1 (And.intro e2 e3))
  clear hsz hg e1 e2 e3 hs
  go_enter Tryd.func84, Tryd.ntmps84
  go_wp2
  go_loop [3, 4, 7] (fun _ _ i => ∃ k : Nat, k ≤ s.size ∧ i = .int .i64 k ∧ nmAll 0 (l.take k) = true) (fun _ _ i => s.size - (intOf i).toNat)
  case atStart => exact ⟨0, Nat.zero_le _, rfl, rfl⟩
  case round =>
    obtain ⟨k, hk, rfl, hn⟩ := hrel
    have HN := Lib.hid hn
    clear hn
    by_cases hlt : k < s.size
    · have hnx := nmAll_take (HG.out k hlt)
      rw [HN.out, Bool.true_and] at hnx
      have hbad : nmAt k s[k] = false → nm l = false := fun h => nm_bad (k := k + 1) (by rw [hnx]; exact h)
      have hat : nmAt k s[k] = ((decide (97 ≤ (s[k].toNat : Int)) && decide ((s[k].toNat : Int) ≤ 122)) || (decide (0 < k) && (decide (48 ≤ (s[k].toNat : Int)) && decide ((s[k].toNat : Int) ≤ 57)))) := by
        rw [Bool.eq_iff_iff]
        simp only [nmAt, isLet, isDig, Bool.or_eq_true, Bool.and_eq_true, decide_eq_true_eq]
        omega
      have HX := Lib.hid hnx
      have HB := Lib.hid hbad
      have HA := Lib.hid hat
      clear hnx hbad hat
      by_cases h3 : k = 0
      · subst h3
        go_wp2
        all_goals first
          | (go_ret
             refine ⟨by rw [HB.out (by rw [HA.out, Bool.eq_false_iff]; simp only [ne_eq, Bool.or_eq_true, Bool.and_eq_true, decide_eq_true_eq]; simp at *; omega)]; rfl, rfl⟩)
          | (go_round
             case rel => exact ⟨0 + 1, by omega, by go_num, by rw [HX.out, HA.out]; simp only [Bool.or_eq_true, Bool.and_eq_true, decide_eq_true_eq]; simp at *; omega⟩
             case measure => simp [intOf]; omega)
      · go_wp2
        all_goals first
          | (go_ret
             refine ⟨by rw [HB.out (by rw [HA.out, Bool.eq_false_iff]; simp only [ne_eq, Bool.or_eq_true, Bool.and_eq_true, decide_eq_true_eq]; simp at *; omega)]; rfl, rfl⟩)
          | (go_round
             case rel => exact ⟨k + 1, by omega, by go_num, by rw [HX.out, HA.out]; simp only [Bool.or_eq_true, Bool.and_eq_true, decide_eq_true_eq]; simp at *; omega⟩
             case measure => simp [intOf]; omega)
    · have hke : k = l.length := by rw [← HS.out]; omega
      have hall : nmAll 0 l = true := by have := HN.out; rw [hke, List.take_length] at this; exact this
      have hnm : nm l = (decide (l ≠ []) && decide (l.length ≤ 12)) := by unfold nm; rw [hall, Bool.true_and]
      have HM := Lib.hid hnm
      clear hnm hall
      have hsz := HS.out
      obtain ⟨e1, e2, e3⟩ := HE.out
      have hke' : k = s.size := by omega
      clear hke hk hlt
      subst hke'
      by_cases h0 : l = []
      · have hs0 : s.size = 0 := by rw [hsz, h0]; rfl
        simp only [h0, decide_true] at e1 e2
        have hr : nm l = false := by rw [HM.out]; simp [h0]
        have HR := Lib.hid hr
        clear h0 hsz e3 hr
        go_wp2
        all_goals (go_ret; exact ⟨by rw [HR.out]; rfl, rfl⟩)
      · simp only [h0, decide_false] at e1 e2
        have hr : nm l = decide (s.size ≤ 12) := by rw [HM.out, hsz]; simp [h0]
        have HR := Lib.hid hr
        clear h0 e3 hr hsz
        by_cases h12 : s.size ≤ 12
        all_goals
          go_wp2
          go_ret
          exact ⟨by rw [HR.out]; simp [h12]; omega, rfl⟩
end Ac
end Go.Proofs.YtoeeddfinmfnoaaDoor
