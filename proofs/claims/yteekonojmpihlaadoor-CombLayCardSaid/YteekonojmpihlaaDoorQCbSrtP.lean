/- Plain law of chapter 23: the stable order, in the words of the sort's plain layer. No program. -/
import Derived.Sort.LotA
import Derived.Sort.WalkA
import Derived.Sort.LotD2
namespace Go.Proofs.YteekonojmpihlaaDoor
open Go Go.Sort
namespace Cb
/-- a stands before b: its key is more. -/
def ky (key : Nat → Nat) (a b : Nat) : Bool := decide (key b < key a)
/-- .. or as much, and a is less. -/
def lx (key : Nat → Nat) (a b : Nat) : Bool := decide (key b < key a) || (decide (key a = key b) && decide (a < b))
theorem lx_swo (key : Nat → Nat) : SWO (lx key) := by
  refine ⟨fun x => ?_, fun x y z h1 h2 => ?_, fun x y z h1 h2 => ?_⟩
  · simp [lx]
  · simp only [lx, Bool.or_eq_true, Bool.and_eq_true, decide_eq_true_eq] at *
    omega
  · simp only [lx, Bool.or_eq_false_iff, Bool.and_eq_false_iff, decide_eq_false_iff_not] at *
    omega
theorem lx_total (key : Nat → Nat) (x y : Nat) (h1 : lx key x y = false) (h2 : lx key y x = false) : x = y := by
  simp only [lx, Bool.or_eq_false_iff, Bool.and_eq_false_iff, decide_eq_false_iff_not] at *
  omega
theorem ky_lx {key : Nat → Nat} {x y : Nat} (h : y < x) : ky key x y = lx key x y := by
  unfold ky lx
  rw [decide_eq_false (by omega : ¬ x < y)]
  simp
/-- The stable order of 0 .. n - 1. -/
def ordN (key : Nat → Nat) (n : Nat) : List Nat := (List.range n).mergeSort fun x y => !lx key y x
theorem ordN_of {key : Nat → Nat} {n : Nat} {d : Array Nat} (hp : PermIn 0 n (Array.range n) d) (hs : SortedIn (lx key) 0 n d) : d.toList = ordN key n := by
  have h := sorted_unique_holds (lx_swo key) (lx_total key) (Array.range n) d (by rw [Array.size_range]; exact hp) (by rw [Array.size_range]; exact hs)
  rw [h]
  unfold ordN
  rw [Array.toList_range]
theorem insInner_same (key : Nat → Nat) (a : Nat) : ∀ (j : Nat) (d : Array Nat), j < d.size → (∀ k, a ≤ k → k < j → d[k]! < d[j]!) → insInner (ky key) a j d = insInner (lx key) a j d
  | 0, d, _, _ => by simp [insInner]
  | j + 1, d, hj, h => by
    unfold insInner
    by_cases hc : j + 1 > a
    · rw [ky_lx (h j (by omega) (by omega))]
      split
      · refine insInner_same key a j _ (by rw [size_swp]; omega) fun k h1 h2 => ?_
        rw [swp_other d _ _ k (by omega) (by omega), swp_right d (j + 1) j (by omega)]
        exact h k h1 (by omega)
      · rfl
    · rw [decide_eq_false hc]
      simp
theorem insOuter_same (key : Nat → Nat) (a b : Nat) : ∀ (n i : Nat) (d : Array Nat), b - i = n → a < i → b ≤ d.size → SortedIn (lx key) a i d → (∀ k l, a ≤ k → k < l → i ≤ l → l < b → d[k]! < d[l]!) → insOuter (ky key) a b i d = insOuter (lx key) a b i d
  | 0, i, d, hn, _, _, _, _ => by rw [insOuter_stop _ _ _ _ _ (by omega), insOuter_stop _ _ _ _ _ (by omega)]
  | n + 1, i, d, hn, hai, hb, hs, h => by
    have hlt : i < b := by omega
    rw [insOuter_go _ _ _ _ _ hlt, insOuter_go _ _ _ _ _ hlt, insInner_same key a i d (by omega) (fun k h1 h2 => h k i h1 h2 (Nat.le_refl _) hlt)]
    have h1 := insInner_spec (lx_swo key) swp_permIn permIn_refl permIn_trans a (i + 1) i (Nat.lt_succ_self _) i d (by omega) (Nat.le_refl _) (by omega) ⟨fun p q hap hpq hqi _ hq => hs p q hap hpq (by omega), fun q h1 h2 => by omega⟩
    refine insOuter_same key a b n (i + 1) _ (by omega) (by omega) (by rw [h1.1.1]; exact hb) h1.2 fun k l h2 h3 h4 h5 => ?_
    rw [h1.1.2.1 l (Or.inr h4)]
    rcases Nat.lt_or_ge k (i + 1) with h6 | h6
    · exact permIn_all d _ a (i + 1) (fun x => x < d[l]!) (by omega) h1.1 (fun q hq1 hq2 => h q l hq1 (by omega) (by omega) h5) k h2 h6
    · rw [h1.1.2.1 k (Or.inr h6)]
      exact h k l h2 h3 (by omega) h5
/-- The insertion sort by the keys alone, of rising numbers. -/
theorem insertion_key {key : Nat → Nat} {a b : Nat} {d : Array Nat} (hab : a ≤ b) (hb : b ≤ d.size) (h : ∀ k l, a ≤ k → k < l → l < b → d[k]! < d[l]!) :
    PermIn a b d (insertionSort (ky key) d a b) ∧ SortedIn (lx key) a b (insertionSort (ky key) d a b) := by
  have h1 : insertionSort (ky key) d a b = insertionSort (lx key) d a b := by
    unfold insertionSort
    exact insOuter_same key a b _ (a + 1) d rfl (by omega) hb (fun i j _ _ _ => by omega) (fun k l h1 h2 _ h4 => h k l h1 h2 h4)
  rw [h1]
  exact insertionSort_holds (lx_swo key) d a b hab hb
theorem range_get {n k : Nat} (h : k < n) : (Array.range n)[k]! = k := by
  rw [getElem!_pos _ k (by simpa using h)]
  simp
end Cb
end Go.Proofs.YteekonojmpihlaaDoor
