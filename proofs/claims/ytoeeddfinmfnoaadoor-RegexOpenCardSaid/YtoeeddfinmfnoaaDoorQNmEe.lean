import Derived.Test.YtoeeddfinmfnoaaDoorRows
import Derived.Test.YtoeeddfinmfnoaaDoorQActPure
import Derived.LaidEql
import Derived.Stop.Asserts
import Derived.RowKitTokens
/- errors.Is at sentinels of errors.New's make, and doffernum.Num over all listed errors: the number of a sentinel, 0 of nil. Condition: the listed variables hold pointers of their own. -/
namespace Go.Proofs.YtoeeddfinmfnoaaDoor
namespace Kt
end Kt
open Go Go.RowKit Go.Extern.Stop Go.Stop Go.Extern Kt
namespace Er

def ev (A : Nat → Addr) (g : Nat) : Value := .iface 204 (.pointer (some (A g)))
theorem isTypeOf (v : Value) (w : World) : (Extern.ReflectliteType.typeOf #[.iface 204 v]).run Tryd.prog w = .ok (.iface 133 (.agg #[.pointer (some ⟨20, 204, none⟩)])) w := by kernel_rfl
/-- What the model gives for (rtype).Comparable. -/
def cmpFn : Array Value → Sem Value := Extern.ReflectliteType.method fun t => do Go.Extern.Rtype.noPackHeld "Comparable" t; pure (.bool (← typeInfo t).comparable)
theorem isComparable (w : World) : (cmpFn #[.agg #[.pointer (some ⟨20, 204, none⟩)]]).run Tryd.prog w = .ok (.bool true) w := by kernel_rfl
theorem isMethodComparable (v : Value) (w : World) : (Go.method 338 133 v "Comparable").run Tryd.prog w = .ok (190, v) w := by kernel_rfl
theorem isComp : (Tryd.prog.info? 204).map (·.comparable) = some true := by kernel_rfl
theorem isSize : (Tryd.prog.info? 227).map (·.size) = some 1 := by kernel_rfl
theorem noIsE (v : Value) (xT : TypeId) (w : World) : (Instr.typeAssert (.iface 204 v) xT 135 true).run Tryd.prog w = .ok (.tuple #[.nilIface, .bool false]) w := run_typeAssert_lacksB Tryd.underlying135 (by kernel_rfl) (by kernel_rfl) v xT w
theorem noUnwrapE (v : Value) (xT : TypeId) (w : World) : (Instr.typeAssert (.iface 204 v) xT 138 true).run Tryd.prog w = .ok (.tuple #[.nilIface, .bool false]) w := run_typeAssert_lacksB Tryd.underlying138 (by kernel_rfl) (by kernel_rfl) v xT w
theorem noUnwrapsE (v : Value) (xT : TypeId) (w : World) : (Instr.typeAssert (.iface 204 v) xT 140 true).run Tryd.prog w = .ok (.tuple #[.nilIface, .bool false]) w := run_typeAssert_lacksB Tryd.underlying140 (by kernel_rfl) (by kernel_rfl) v xT w

theorem star : "*" ++ "errors.errorString" = "*errors.errorString" := by decide
set_option maxRecDepth 100000 in
/-- errors.Is(x, x), x a pointer to an errors.errorString. -/
theorem is_same (a : Addr) (w : World) :
    Calls Tryd.prog 57 #[.iface 204 (.pointer (some a)), .iface 204 (.pointer (some a))] w fun e w' => e = .returned (.bool true) ∧ w = w' := by
  obtain ⟨i, hi, hcmp⟩ := Option.map_eq_some_iff.1 isComp
  obtain ⟨j, hj, hjs⟩ := Option.map_eq_some_iff.1 isSize
  have h8 := @run_callFunc_extern Tryd.prog 79 _ Extern.ReflectliteType.typeOf Tryd.func79 (by kernel_rfl) (by kernel_rfl) (by kernel_rfl) (by kernel_rfl)
  have h32 := @run_callFunc_extern Tryd.prog 190 _ cmpFn Tryd.func190 (by kernel_rfl) (by kernel_rfl) (by kernel_rfl) (by kernel_rfl)
  have tT := isTypeOf
  have cT := isComparable
  have mR := isMethodComparable
  have heq := run_eql_iface_ptr_same (P := Tryd.prog) w a Tryd.underlying40 Tryd.underlying204 hi hcmp hj
  go_enter Tryd.func57, Tryd.ntmps57
  go_wp2
  refine wp_loop_rounds 1 ?_
  rw [rounds_succ]
  go_wp2
  go_ret
  exact ⟨rfl, rfl⟩

set_option maxRecDepth 100000 in
/-- errors.Is(x, y), two different pointers. -/
theorem is_other (a b : Addr) (ca cb : Array Value) (ta tb : TypeId) (w : World) (hne : a ≠ b) (ha : w.heap[a.block]? = some (.cells ca ta (0, 0))) (hb : w.heap[b.block]? = some (.cells cb tb (0, 0))) :
    Calls Tryd.prog 57 #[.iface 204 (.pointer (some a)), .iface 204 (.pointer (some b))] w fun e w' => e = .returned (.bool false) ∧ w = w' := by
  obtain ⟨i, hi, hcmp⟩ := Option.map_eq_some_iff.1 isComp
  obtain ⟨j, hj, hjs⟩ := Option.map_eq_some_iff.1 isSize
  have h8 := @run_callFunc_extern Tryd.prog 79 _ Extern.ReflectliteType.typeOf Tryd.func79 (by kernel_rfl) (by kernel_rfl) (by kernel_rfl) (by kernel_rfl)
  have h32 := @run_callFunc_extern Tryd.prog 190 _ cmpFn Tryd.func190 (by kernel_rfl) (by kernel_rfl) (by kernel_rfl) (by kernel_rfl)
  have tT := isTypeOf
  have cT := isComparable
  have mR := isMethodComparable
  have nE := noIsE
  have uE := noUnwrapE
  have vE := noUnwrapsE
  have heq := run_eql_iface_ptr_other (P := Tryd.prog) w Tryd.underlying40 Tryd.underlying204 hi hcmp hj (by rw [hjs]; decide) hne ha hb
  go_enter Tryd.func57, Tryd.ntmps57
  go_wp2
  refine wp_loop_rounds 1 ?_
  rw [rounds_succ]
  go_wp2
  go_ret
  exact ⟨rfl, rfl⟩

/-- The listed errors, in the order of their numbers. -/
def egs : List Nat := [3, 4, 5, 0, 6, 7, 1, 8, 2, 9, 10, 11, 12, 13, 14, 15, 16, 17]
set_option maxHeartbeats 1000000 in
set_option maxRecDepth 100000 in
/-- The number of the k-th sentinel is k + 1. -/
theorem num_err (A : Nat → Addr) (k : Nat) (hk : k < 18) (w : World) (hs : Sent 204 w A egs) :
    Calls Tryd.prog 21 #[ev A (egs.getD k 0)] w fun e w' => e = .returned (.int .i64 ((k : Int) + 1)) ∧ Below w.heap.size w w' := by
  have c0 := hs.cell 3 (by simp [egs])
  have c1 := hs.cell 4 (by simp [egs])
  have c2 := hs.cell 5 (by simp [egs])
  have c3 := hs.cell 0 (by simp [egs])
  have c4 := hs.cell 6 (by simp [egs])
  have c5 := hs.cell 7 (by simp [egs])
  have c6 := hs.cell 1 (by simp [egs])
  have c7 := hs.cell 8 (by simp [egs])
  have c8 := hs.cell 2 (by simp [egs])
  have c9 := hs.cell 9 (by simp [egs])
  have c10 := hs.cell 10 (by simp [egs])
  have c11 := hs.cell 11 (by simp [egs])
  have c12 := hs.cell 12 (by simp [egs])
  have c13 := hs.cell 13 (by simp [egs])
  have c14 := hs.cell 14 (by simp [egs])
  have c15 := hs.cell 15 (by simp [egs])
  have c16 := hs.cell 16 (by simp [egs])
  have c17 := hs.cell 17 (by simp [egs])
  have hrd : Rd (w.alloc (.cells #[.iface 204 (.pointer (some (A 3))), .iface 204 (.pointer (some (A 4))), .iface 204 (.pointer (some (A 5))), .iface 204 (.pointer (some (A 0))), .iface 204 (.pointer (some (A 6))), .iface 204 (.pointer (some (A 7))), .iface 204 (.pointer (some (A 1))), .iface 204 (.pointer (some (A 8))), .iface 204 (.pointer (some (A 2))), .iface 204 (.pointer (some (A 9))), .iface 204 (.pointer (some (A 10))), .iface 204 (.pointer (some (A 11))), .iface 204 (.pointer (some (A 12))), .iface 204 (.pointer (some (A 13))), .iface 204 (.pointer (some (A 14))), .iface 204 (.pointer (some (A 15))), .iface 204 (.pointer (some (A 16))), .iface 204 (.pointer (some (A 17)))] 40)) (some ⟨w.heap.size, 0, none⟩) (egs.map (ev A)) := Rd.new _ _ _ _ _ rfl
  have hb := (Below.refl w.heap.size w).alloc (Nat.le_refl _) (.cells #[.iface 204 (.pointer (some (A 3))), .iface 204 (.pointer (some (A 4))), .iface 204 (.pointer (some (A 5))), .iface 204 (.pointer (some (A 0))), .iface 204 (.pointer (some (A 6))), .iface 204 (.pointer (some (A 7))), .iface 204 (.pointer (some (A 1))), .iface 204 (.pointer (some (A 8))), .iface 204 (.pointer (some (A 2))), .iface 204 (.pointer (some (A 9))), .iface 204 (.pointer (some (A 10))), .iface 204 (.pointer (some (A 11))), .iface 204 (.pointer (some (A 12))), .iface 204 (.pointer (some (A 13))), .iface 204 (.pointer (some (A 14))), .iface 204 (.pointer (some (A 15))), .iface 204 (.pointer (some (A 16))), .iface 204 (.pointer (some (A 17)))] 40)
  have hs' := hs.keep hb
  have Hinj := Lib.hid hs.inj
  have hmem : ∀ j, j < 18 → egs.getD j 0 ∈ egs := by
    intro j hj
    have hl : egs.length = 18 := rfl
    rw [List.getD_eq_getElem?_getD, List.getElem?_eq_getElem (by omega)]
    exact List.getElem_mem _
  have hdist : ∀ i, i < 18 → ∀ j, j < 18 → egs.getD i 0 = egs.getD j 0 → i = j := by decide
  have Hmem := Lib.hid hmem
  have Hdist := Lib.hid hdist
  have Hb := Lib.hid hb
  have Hrow := Lib.hid hs'.row
  clear hs hmem hdist hb hs'
  unfold ev
  have Hrd := Lib.hid hrd
  clear hrd
  go_enter Tryd.func21, Tryd.ntmps21
  go_wp2
  go_loop [4, 5, 29] (fun _ _ i => ∃ j : Nat, j ≤ k ∧ i = .int .i64 j) (fun _ _ i => 18 - (intOf i).toNat)
  case atStart => exact ⟨0, Nat.zero_le _, rfl⟩
  case round =>
    obtain ⟨j, hj, rfl⟩ := hrel
    obtain ⟨b, off, he, hc⟩ := Hrd.out j (.iface 204 (.pointer (some (A (egs.getD j 0))))) (by
      have hl : egs.length = 18 := rfl
      rw [List.getElem?_map, List.getD_eq_getElem?_getD, List.getElem?_eq_getElem (by omega)]
      rfl)
    simp only [Option.some.injEq, Addr.mk.injEq, and_true] at he
    obtain ⟨rfl, rfl⟩ := he
    rw [Nat.zero_add] at hc
    by_cases hjk : j = k
    · subst hjk
      generalize egs.getD j 0 = gj at *
      go_wp2_with (go_at_call 57; refine (is_same _ _).mono ?_; rintro e w' ⟨rfl, rfl⟩)
      go_ret
      exact ⟨rfl, Hb.out⟩
    · have hne : A (egs.getD k 0) ≠ A (egs.getD j 0) := fun h => hjk (Hdist.out j (by omega) k hk (Hinj.out _ (Hmem.out k hk) _ (Hmem.out j (by omega)) h).symm)
      obtain ⟨c1, t1, r1⟩ := Hrow.out _ (Hmem.out k hk)
      obtain ⟨c2, t2, r2⟩ := Hrow.out _ (Hmem.out j (by omega))
      generalize egs.getD j 0 = gj at *
      generalize egs.getD k 0 = gk at *
      have R1 := Lib.hid r1
      have R2 := Lib.hid r2
      have Hne := Lib.hid hne
      clear r1 r2 hne
      go_wp2_with (go_at_call 57; refine (is_other _ _ _ _ _ _ _ Hne.out R1.out R2.out).mono ?_; rintro e w' ⟨rfl, rfl⟩)
      go_round
      case rel => exact ⟨j + 1, by omega, by go_num⟩
      case measure => simp [intOf]; omega

theorem num_at (A : Nat → Addr) (g : Nat) (m : Int) (k : Nat) (hk : k < 18) (hg : egs.getD k 0 = g) (hm : m = (k : Int) + 1) (w : World) (hs : Sent 204 w A egs) :
    Calls Tryd.prog 21 #[ev A g] w fun e w' => e = .returned (.int .i64 m) ∧ Below w.heap.size w w' := by
  subst hg hm
  exact num_err A k hk w hs

/-- From a row's condition: the sentinels that it lists. -/
theorem row_es (u : TypeId) (h : Tryd.prog.typeName? 3 u = some "*errors.errorString") : u = 204 :=
  typeName_ptr_named (nm := "errors.errorString") (by rw [star]; kernel_rfl) (by kernel_rfl) (by decide) u (by rw [star]; exact h)
theorem sent_met {W : World} {L : List (String × DataW Unit)} {S : List Nat} (hL : laidMetH Tryd.prog L W) (hpl : (L.filter fun x => x.2.handleName?.isSome).isEmpty = true)
    (hty : (L.all fun x => !isSent "*errors.errorString" x.2 || (match Tryd.prog.globalNamed x.1 with | some g => (Tryd.prog.globals[g]?).map (·.type) == some 40 | none => true)) = true)
    (hS : (S.all fun g => L.any fun x => isSent "*errors.errorString" x.2 && Tryd.prog.globalNamed x.1 == some g) = true) : ∃ A, Sent 204 W A S := by
  have hL' : laidMet Tryd.prog L W := by
    unfold laidMetH at hL
    rw [List.isEmpty_iff.1 hpl] at hL
    exact hL
  exact sent_of Tryd.underlying40 row_es Tryd.underlying204 Tryd.underlying227 rfl rfl Tryd.underlying9 (by kernel_rfl) (by kernel_rfl) hL' hty hS
end Er
end Go.Proofs.YtoeeddfinmfnoaaDoor

/- Errors by their numbers. Condition: the sentinels read as laid. -/
namespace Go.Proofs.YtoeeddfinmfnoaaDoor
open Go Go.RowKit Kt
namespace Bo
/-- An error by its number. -/
def ee (A : Nat → Addr) (n : Int) : Value := if n = 0 then .nilIface else Er.ev A (Er.egs.getD (n.toNat - 1) 0)
end Bo
end Go.Proofs.YtoeeddfinmfnoaaDoor
