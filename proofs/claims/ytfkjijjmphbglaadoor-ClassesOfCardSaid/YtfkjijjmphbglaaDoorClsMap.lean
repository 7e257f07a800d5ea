/- classes.Right, dofferref22.Right: whether classes are numbered as told. -/
import Derived.Test.YtfkjijjmphbglaaDoorArr
import Derived.Test.YtfkjijjmphbglaaDoorClsOf
namespace Go.Proofs.YtfkjijjmphbglaaDoor
open Go Go.RowKit Kt
namespace Cl
open Sb
/-- The next new class behind a list of classes; none: it is not numbered so. -/
def rgt : List Int → Nat → Option Nat
  | [], n => some n
  | k :: ks, n => if k < 0 ∨ (n : Int) < k then none else if k = n then rgt ks (n + 1) else rgt ks n
theorem rgt_bad {cl : List Int} {i n : Nat} {k : Int} (hi : cl[i]? = some k) (h : rgt cl 0 = rgt (cl.drop i) n) (hb : k < 0 ∨ (n : Int) < k) : rgt cl 0 = none := by
  have : cl.drop i = k :: cl.drop (i + 1) := by
    obtain ⟨h1, h2⟩ := List.getElem?_eq_some_iff.1 hi
    rw [← h2]; exact List.drop_eq_getElem_cons h1
  rw [h, this, rgt, if_pos hb]
theorem rgt_next {cl : List Int} {i n : Nat} {k : Int} (hi : cl[i]? = some k) (h : rgt cl 0 = rgt (cl.drop i) n) (hb : ¬ (k < 0 ∨ (n : Int) < k)) : rgt cl 0 = rgt (cl.drop (i + 1)) (if k = n then n + 1 else n) := by
  have : cl.drop i = k :: cl.drop (i + 1) := by
    obtain ⟨h1, h2⟩ := List.getElem?_eq_some_iff.1 hi
    rw [← h2]; exact List.drop_eq_getElem_cons h1
  rw [h, this, rgt, if_neg hb]
  split <;> rfl
/-- All classes are below the next new one. -/
theorem rgt_lt : ∀ (cl : List Int) (n m : Nat), rgt cl n = some m → n ≤ m ∧ ∀ k ∈ cl, 0 ≤ k ∧ k < m
  | [], n, m, h => by simp only [rgt, Option.some.injEq] at h; simp; omega
  | k :: ks, n, m, h => by
    unfold rgt at h
    split at h
    · cases h
    · rename_i hb
      split at h
      · rename_i hk
        obtain ⟨h1, h2⟩ := rgt_lt ks (n + 1) m h
        refine ⟨by omega, fun q hq => ?_⟩
        rcases List.mem_cons.1 hq with rfl | hq
        · omega
        · exact h2 q hq
      · obtain ⟨h1, h2⟩ := rgt_lt ks n m h
        refine ⟨h1, fun q hq => ?_⟩
        rcases List.mem_cons.1 hq with rfl | hq
        · omega
        · exact h2 q hq
/-- Whether a Map's classes are numbered as told. -/
def okm (C : List Int) (many : Int) : Bool := match rgt C 0 with
  | some n => many == (n : Int)
  | none => false
def RmR (w : World) (C : List Int) (nx i : Value) (W : World) : Prop := ∃ k n : Nat, k ≤ 256 ∧ n ≤ k ∧ i = .int .i64 (k : Int) ∧ nx = .int .i64 (n : Int) ∧ rgt C 0 = rgt (C.drop k) n ∧ w = W
set_option maxHeartbeats 4000000 in
set_option maxRecDepth 100000 in
theorem mright_c (C : List Int) (many : Int) (hC : C.length = 256) (w : World) : Calls Tryd.prog 24 #[.agg (i64s (C ++ [many])).toArray] w fun e w' => e = .returned (.bool (okm C many)) ∧ Below w.heap.size w w' := by
  have hL : (i64s (C ++ [many])).length = 257 := by simp [i64s_length, hC]
  have hnew := heap_alloc_new w (.cells (i64s (C ++ [many])).toArray 30)
  have hl := load_arr (C := C) Tryd.underlying28 info28 hC (fun i x hx => by rw [List.getElem?_append_left (List.getElem?_eq_some_iff.1 hx).1]; exact hx) hnew
  have k0 := cell_block hnew 256
  have k1 : (i64s (C ++ [many])).toArray[256]? = some (.int .i64 many) := by
    have : (C ++ [many])[256]? = some many := by rw [List.getElem?_append_right (by omega), hC]; rfl
    simp only [i64s, List.getElem?_toArray, List.getElem?_map, this, Option.map_some]
  rw [k1] at k0
  have HB := Lib.hid ((Below.refl w.heap.size w).alloc (Nat.le_refl _) (.cells (i64s (C ++ [many])).toArray 30))
  clear k1 hnew hL
  obtain ⟨W1, hW1⟩ : ∃ W1, w.alloc (.cells (i64s (C ++ [many])).toArray 30) = W1 := ⟨_, rfl⟩
  rw [hW1] at hl k0 HB
  have HW1 := Lib.hid hW1
  clear hW1
  have HC := Lib.hid hC
  clear hC
  go_enter Tryd.func24, Tryd.ntmps24
  go_wp2_with fail
  rw [HW1.out]
  refine wp_load_run hl rfl rfl ?_
  go_wp2
  go_loopw [3, 5, 8] (fun nx _ i W => RmR W1 C nx i W) (fun _ _ i _ => 256 - (intOf i).toNat)
  case atStart => exact ⟨0, 0, by omega, by omega, rfl, rfl, rfl, rfl⟩
  case round =>
    clear hl
    obtain ⟨i, n, hi, hn, rfl, rfl, hr, rfl⟩ := hrel
    by_cases hlt : i < 256
    · have hd : decide ((i : Int) < 256) = true := by simp; omega
      obtain ⟨x, hx⟩ : ∃ x, C[i]? = some x := ⟨_, List.getElem?_eq_getElem (by rw [HC.out]; exact hlt)⟩
      have hix := fun w => index_int Tryd.underlying28 i hlt hx w
      by_cases hb : x < 0 ∨ (n : Int) < x
      · have hno : okm C many = false := by unfold okm; rw [rgt_bad hx hr hb]
        have Hno := Lib.hid hno
        clear hr hx hno k0
        by_cases hx0 : x < 0
        · have d1 : decide (x < 0) = true := by simpa using hx0
          clear hb
          go_wp2
          go_ret
          exact ⟨by rw [Hno.out]; rfl, HB.out⟩
        · have d1 : decide (x < 0) = false := by simpa using hx0
          have d2 : decide ((n : Int) < x) = true := by simp; omega
          clear hb
          go_wp2
          go_ret
          exact ⟨by rw [Hno.out]; rfl, HB.out⟩
      · have hr2 := rgt_next hx hr hb
        have d1 : decide (x < 0) = false := by simp; omega
        have d2 : decide ((n : Int) < x) = false := by simp; omega
        have Hr2 := Lib.hid hr2
        clear hr hr2 hb hx
        by_cases hxn : x = n
        · have d3 : (x == (n : Int)) = true := by simpa using hxn
          have HX := Lib.hid hxn
          clear hxn
          go_wp2
          go_roundw
          case rel => exact ⟨i + 1, n + 1, hlt, by omega, by go_num, by go_num, by rw [Hr2.out, if_pos HX.out], rfl⟩
          case measure => simp [intOf]; omega
        · have d3 : (x == (n : Int)) = false := by simpa using hxn
          have HX := Lib.hid hxn
          clear hxn
          go_wp2
          go_roundw
          case rel => exact ⟨i + 1, n, hlt, by omega, by go_num, rfl, by rw [Hr2.out, if_neg HX.out], rfl⟩
          case measure => simp [intOf]; omega
    · have hi256 : i = 256 := by omega
      subst hi256
      have hd : decide (((256 : Nat) : Int) < 256) = false := by decide
      rw [List.drop_of_length_le (by rw [HC.out]; exact Nat.le_refl _)] at hr
      have hok : okm C many = (many == (n : Int)) := by unfold okm; rw [hr]; rfl
      have Hok := Lib.hid hok
      clear hr hok
      go_wp2
      go_ret
      exact ⟨by rw [Hok.out]; rfl, HB.out⟩
def RqR (w : World) (C : List Int) (g i : Value) (W : World) : Prop := ∃ k n : Nat, k ≤ 256 ∧ n ≤ k ∧ i = .int .i64 (k : Int) ∧ g = .int .i64 ((n : Int) - 1) ∧ rgt C 0 = rgt (C.drop k) n ∧ w = W
set_option maxHeartbeats 4000000 in
set_option maxRecDepth 100000 in
theorem rright_c (C : List Int) (many : Int) (hC : C.length = 256) (w : World) : Calls Tryd.prog 27 #[.agg (i64s C).toArray, .int .i64 many] w fun e w' => e = .returned (.bool (okm C many)) ∧ Below w.heap.size w w' := by
  have hL : (i64s C).length = 256 := by simp [i64s_length, hC]
  have hnew := heap_alloc_new w (.cells (i64s C).toArray 28)
  have hl := load_arr (C := C) Tryd.underlying28 info28 hC (fun i x hx => hx) hnew
  have HB := Lib.hid ((Below.refl w.heap.size w).alloc (Nat.le_refl _) (.cells (i64s C).toArray 28))
  clear hnew hL
  obtain ⟨W1, hW1⟩ : ∃ W1, w.alloc (.cells (i64s C).toArray 28) = W1 := ⟨_, rfl⟩
  rw [hW1] at hl HB
  have HW1 := Lib.hid hW1
  clear hW1
  have HC := Lib.hid hC
  clear hC
  go_enter Tryd.func27, Tryd.ntmps27
  go_wp2_with fail
  rw [HW1.out]
  refine wp_load_run hl rfl rfl ?_
  go_wp2
  go_loopw [5, 7, 9] (fun nx _ i W => RqR W1 C nx i W) (fun _ _ i _ => 256 - (intOf i).toNat)
  case atStart => exact ⟨0, 0, by omega, by omega, rfl, rfl, rfl, rfl⟩
  case round =>
    clear hl
    obtain ⟨i, n, hi, hn, rfl, rfl, hr, rfl⟩ := hrel
    have hn1 : (n : Int) - 1 + 1 = n := by omega
    by_cases hlt : i < 256
    · have hd : decide ((i : Int) < 256) = true := by simp; omega
      obtain ⟨x, hx⟩ : ∃ x, C[i]? = some x := ⟨_, List.getElem?_eq_getElem (by rw [HC.out]; exact hlt)⟩
      have hix := fun w => index_int Tryd.underlying28 i hlt hx w
      by_cases hb : x < 0 ∨ (n : Int) < x
      · have hno : okm C many = false := by unfold okm; rw [rgt_bad hx hr hb]
        have Hno := Lib.hid hno
        clear hr hx hno
        by_cases hx0 : x < 0
        · have d1 : decide (x < 0) = true := by simpa using hx0
          clear hb
          go_wp2
          go_ret
          exact ⟨by rw [Hno.out]; rfl, HB.out⟩
        · have d1 : decide (x < 0) = false := by simpa using hx0
          have d2 : decide ((n : Int) < x) = true := by simp; omega
          clear hb
          go_wp2
          go_ret
          exact ⟨by rw [Hno.out]; rfl, HB.out⟩
      · have hr2 := rgt_next hx hr hb
        have d1 : decide (x < 0) = false := by simp; omega
        have d2 : decide ((n : Int) < x) = false := by simp; omega
        have Hr2 := Lib.hid hr2
        clear hr hr2
        by_cases hxn : x = n
        · have d3 : decide ((n : Int) - 1 < x) = true := by simp; omega
          have HX := Lib.hid hxn
          clear hxn hb hx
          go_wp2
          go_roundw
          case rel => exact ⟨i + 1, n + 1, hlt, by omega, by go_num, by rw [HX.out]; congr 1; omega, by rw [Hr2.out, if_pos HX.out], rfl⟩
          case measure => simp [intOf]; omega
        · have d3 : decide ((n : Int) - 1 < x) = false := by simp; omega
          have HX := Lib.hid hxn
          clear hxn hb hx
          go_wp2
          go_roundw
          case rel => exact ⟨i + 1, n, hlt, by omega, by go_num, rfl, by rw [Hr2.out, if_neg HX.out], rfl⟩
          case measure => simp [intOf]; omega
    · have hi256 : i = 256 := by omega
      subst hi256
      have hd : decide (((256 : Nat) : Int) < 256) = false := by decide
      rw [List.drop_of_length_le (by rw [HC.out]; exact Nat.le_refl _)] at hr
      have hok : okm C many = (many == (n : Int)) := by unfold okm; rw [hr]; rfl
      have Hok := Lib.hid hok
      clear hr hok
      go_wp2
      go_ret
      exact ⟨by rw [Hok.out]; rfl, HB.out⟩
end Cl
end Go.Proofs.YtfkjijjmphbglaaDoor
