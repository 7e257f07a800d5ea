/- The walks of package sets: below, Span, Empty, Minus, Of. -/
import Derived.Test.YtfkjijjmphbglaaDoorSets6
import Derived.Laws.BitsAllLaws
namespace Go.Proofs.YtfkjijjmphbglaaDoor
open Go Go.RowKit Kt
namespace St
open Mk

/-- A word of a span. -/
def sw (lo hi : Nat) (i : Nat) : Nat := bl ((hi : Int) + 1 - 64 * (i : Int)) &&& (18446744073709551615 - bl ((lo : Int) - 64 * (i : Int)))
theorem sw_bit (lo hi i t : Nat) (ht : t < 64) : (sw lo hi i).testBit t = (decide (lo ≤ 64 * i + t) && decide (64 * i + t ≤ hi)) := by
  unfold sw
  have hb := bl_lt ((lo : Int) - 64 * (i : Int))
  rw [Nat.testBit_and, bl_bit _ _ ht, show 18446744073709551615 - bl ((lo : Int) - 64 * (i : Int)) = 2 ^ 64 - (bl ((lo : Int) - 64 * (i : Int)) + 1) by omega, Nat.testBit_two_pow_sub_succ hb, bl_bit _ _ ht]
  have h1 : decide (t < 64) = true := by simpa using ht
  rw [h1, Bool.true_and, Bool.and_comm]
  congr 1
  · rw [← decide_not]
    apply decide_eq_decide.2
    omega
  · apply decide_eq_decide.2
    omega
theorem sw_lt (lo hi i : Nat) : sw lo hi i < 18446744073709551616 := Nat.lt_of_le_of_lt Nat.and_le_left (bl_lt _)
theorem sw_run (lo hi i : Nat) (A B : Int) (hA : A = (hi : Int) + 1 - 64 * (i : Int)) (hB : B = (lo : Int) - 64 * (i : Int)) : bits .andNot .u64 (bl A : Nat) (bl B : Nat) = (sw lo hi i : Nat) := by
  subst hA hB
  exact u64_andNot_nat _ _ (bl_lt _) (bl_lt _)

theorem all_nil {ws : List Nat} (hl : ws.length = 4) (hlt : ∀ x ∈ ws, x < 18446744073709551616) : ws = [0, 0, 0, 0] ↔ all ws = [] := by
  constructor
  · rintro rfl
    decide +kernel
  · intro h
    refine (isSet_self hl hlt).unique ⟨rfl, zero_set.lt, fun c hc => ?_⟩
    rw [zero_set.at' c hc]
    cases hh : has ws c with
    | false => rfl
    | true =>
      have : c ∈ all ws := by
        unfold all
        rw [List.mem_filter]
        exact ⟨by rw [hl]; simpa using hc, hh⟩
      rw [h] at this
      cases this
set_option maxRecDepth 100000 in
theorem empty_c (ws : List Nat) (f : Nat → Bool) (hw : IsSet ws f) (w : World) : Calls Tryd.prog 30 #[sv ws] w fun e w' => e = .returned (.bool (decide (all ws = []))) ∧ Below w.heap.size w w' := by
  have he := fun w => eq_run ws [0, 0, 0, 0] hw.len rfl w
  have hd : decide (ws = [0, 0, 0, 0]) = decide (all ws = []) := decide_eq_decide.2 (all_nil hw.len hw.lt)
  rw [hd] at he
  have hb : ∀ w, (Instr.build 56 #[]).run Tryd.prog w = .ok (.agg #[.int .u64 0, .int .u64 0, .int .u64 0, .int .u64 0]) w := fun w => build_zero w
  generalize decide (all ws = []) = v at *
  obtain ⟨x0, x1, x2, x3, rfl⟩ := four hw.len
  clear hd hw
  simp only [sv, vals, List.map_cons, List.map_nil] at he ⊢
  have he' : ∀ w, (binOp .eql 56 (.agg #[.int .u64 (x0 : Int), .int .u64 (x1 : Int), .int .u64 (x2 : Int), .int .u64 (x3 : Int)]) (.agg #[.int .u64 0, .int .u64 0, .int .u64 0, .int .u64 0])).run Tryd.prog w = .ok (.bool v) w := he
  have hB := (Below.refl w.heap.size w)
  clear he
  go_enter Tryd.func30, Tryd.ntmps30
  go_wp2
  go_ret
  exact ⟨rfl, hB.alloc (Nat.le_refl _) _⟩

/-- The loop of Of. -/
def OfR (w : World) (l : List UInt8) (i : Value) (W : World) : Prop := ∃ (k : Nat) (rs : List Nat), k ≤ l.length ∧ i = .int .i64 (k : Int) ∧ IsSet rs (fun q => (l.take k).any fun c => decide (c.toNat = q)) ∧
  W.heap[w.heap.size]? = some (.cells #[.int .u64 0, .int .u64 0, .int .u64 0, .int .u64 0] 56 (0, 0)) ∧ W.heap[w.heap.size + 1]? = some (.cells (vals rs).toArray 56 (0, 0)) ∧ Below w.heap.size w W
theorem put_set {rs : List Nat} {f : Nat → Bool} (h : IsSet rs f) (c : Nat) (hc : c < 256) : IsSet (put rs c) (fun q => f q || decide (c = q)) := by
  refine ⟨by rw [put_len]; exact h.len, put_lt h.lt c, fun q hq => ?_⟩
  rw [has_put (by rw [h.len]; omega), h.at' q hq]
  congr 1
  exact decide_eq_decide.2 eq_comm

end St
end Go.Proofs.YtfkjijjmphbglaaDoor
