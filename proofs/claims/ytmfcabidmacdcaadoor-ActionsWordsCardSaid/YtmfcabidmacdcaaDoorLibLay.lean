/- A law's row, lifted at any witness world; the witness that the list itself lays (tables of Go's own library among it). Over any program. -/
import Derived.Test.YtmfcabidmacdcaaDoorLib
import Derived.Lay
namespace Go.Proofs.YtmfcabidmacdcaaDoor
open Go Go.RowKit Go.ChangeShapes Go.WideShapes
namespace Kt
section
variable {H : Type} {enc : TypeId × Value → H} {P : Program}
/-- THE LAW'S ROW, LIFTED: what is left is the walk: called with arguments that read as data, where the listed variables read as listed, the law returns true and writes nothing that was there. -/
theorem law_lifted_at {C : Checked} {os : Os} {f : FuncId} {fn : Func} {s : ChangeSpec} {laid : List (String × DataW Unit)} {tb : TypeId} {n : Nat} (w0 : World) (hos : w0.os = os) (args0 : Array Value)
    (own : ownKnob C.prog.godebug = none) (started : os.Started) (noInit : C.prog.inits.idxOf? f = none) (hfn : C.prog.funcs[f]? = some fn) (hlo : laidOutB C.prog = true)
    (hv : s.vars = []) (hs : ∀ ds : List (DataW H), ds.length = n → s.fn H ds = { results := [.lit (.bool true)], args := ds }) (hn : fn.params.size = n)
    (hres : fn.resultTypes = #[tb]) (htb : C.prog.underlying tb = some .bool) (hread : (fn.params.toList.all fun t => C.prog.readableRec t && decide (t < C.prog.types.size)) = true)
    (hsh : (w0.forCall (fun _ _ => 0) ⟨#[], args0, []⟩).Shaped C.prog)
    (hok : Input.okWideB C.prog (w0.forCall (fun _ _ => 0) ⟨#[], args0, []⟩) f ⟨#[], args0, []⟩ = true)
    (hpre : s.preB enc C.prog fn [] false (w0.forCall (fun _ _ => 0) ⟨#[], args0, []⟩).memory args0 8 = true)
    (hsz : s.sizedB enc C.prog fn false (w0.forCall (fun _ _ => 0) ⟨#[], args0, []⟩).memory args0 8 = true)
    (hx : laidMetH C.prog laid (w0.forCall (fun _ _ => 0) ⟨#[], args0, []⟩).memory)
    (walk : ∀ (W : World) (base : Nat) (args : Array Value) (ds : List (DataW H)) (ps : List MemPlace),
      (∀ (j : Nat) t v, fn.params[j]? = some t → args[j]? = some v → Value.okWide C.prog W .any base t v) →
      DataW.TrodAll enc C.prog W 0 (fun _ => true) true fn.params.toList args.toList ds ps → laidMetH C.prog laid W →
      Calls C.prog f args W fun e W' => e = .returned (.bool true) ∧ Below W.heap.size W W') :
    ReturnsInHanded {} C os f .any (fun w args => (s.pre enc C.prog fn [] false w args ∧ laidMetH C.prog laid w) ∧ sizedMet enc C.prog fn (OpenSpec.ofChange s) false w args)
      (s.post enc C.prog fn false true false false) := by
  refine returnsInHanded_of_change_and (C := C) (X := fun w _ => laidMetH C.prog laid w) (fun _ _ _ hh h => h.of_heap hh) own started noInit hfn
    (ChangeSpec.witness_shaped (enc := enc) (C := C) (os := os) (X := fun w _ => laidMetH C.prog laid w) false w0 args0 8 hos hsh hok hpre hsz hx) ?_
  intro W base args ds gs before hval hW _ _ hL _
  have hW' := hW
  obtain ⟨p, q, hA, hV, rfl, _, _⟩ := hW
  rw [hv] at hV
  obtain ⟨rfl, rfl⟩ : gs = [] ∧ q = [] := by
    cases gs with
    | nil => exact ⟨rfl, hV⟩
    | cons _ _ => exact hV.elim
  have hlt := trodAll_lt hA
  have hdl : ds.length = n := by
    have : ∀ {ts : List TypeId} {vs : List Value} {ds : List (DataW H)} {ps : List MemPlace}, DataW.TrodAll enc C.prog W 0 (fun _ => true) true ts vs ds ps → ds.length = ts.length := by
      intro ts
      induction ts with
      | nil =>
        intro vs ds ps h
        cases vs <;> cases ds <;> first | rfl | exact h.elim
      | cons t ts ih =>
        intro vs ds ps h
        cases vs <;> cases ds <;> first | exact h.elim | skip
        obtain ⟨_, _, _, h2, _⟩ := h
        simp [ih h2]
    rw [this hA, ← hn]; simp
  refine (walk W base args ds p hval hA hL).mono fun e W' ⟨he, hb⟩ => ?_
  subst he
  have hr : ∀ t ∈ fn.params.toList, C.prog.readableRec t = true ∧ t < C.prog.types.size := by
    intro t ht
    have := List.all_eq_true.1 hread t ht
    simpa using this
  refine ⟨_, rfl, ds, [], p ++ [], [], p, [], hW', ?_, ?_, ?_, hb.frame _, fun h => by cases h⟩
  · rw [List.append_nil, hs ds hdl, hres]
    exact trodAll_mk1 (shut_bool htb _)
  · rw [List.append_nil, hs ds hdl]
    exact trodAll_below hlo hb hr hlt hA
  · rw [List.append_nil, hs ds hdl, hv]
    rfl
end

end Kt
end Go.Proofs.YtmfcabidmacdcaaDoor
