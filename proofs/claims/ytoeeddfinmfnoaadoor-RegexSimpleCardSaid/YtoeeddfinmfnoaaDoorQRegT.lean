import Derived.Deep.RegionHeld3
/- A region whose loads hang on cells that one of its last stores turns: the condition on the world holds till that store. Over any program. -/
namespace Go.Proofs.YtoeeddfinmfnoaaDoor
open Go
namespace Kt
section
variable {P : Program} {ops : Array Oper} {Q : Exit → Act → World → Prop} {md : Region.Mode} {S1 S0 : World → Prop} {c : Nat}
/-- S1 holds all the way, S0 till number c is carried out. -/
def Hold (S1 S0 : World → Prop) (c : Nat) (listed : Array Bool) (w : World) : Prop := S1 w ∧ (listed.getD c true = false → S0 w)
/-- Whatever order is picked from here on; Hold is shown behind each operation. -/
def wpAnyT (P : Program) (md : Region.Mode) (ops : Array Oper) (Q : Exit → Act → World → Prop) (S1 S0 : World → Prop) (c : Nat) : Nat → Array Bool → Act → World → Prop
  | 0, listed, a, w => Region.ready md ops listed = [] ∧ Q .normal a w
  | fuel + 1, listed, a, w =>
    (Region.ready md ops listed = [] → Q .normal a w) ∧
    ∀ i ∈ Region.ready md ops listed, wpOp P ops Q i (fun a' w' => Hold S1 S0 c (listed.setIfInBounds i true) w' ∧ wpAnyT P md ops Q S1 S0 c fuel (listed.setIfInBounds i true) a' w') a w
theorem wpAny_of_T : ∀ (fuel : Nat) (listed : Array Bool) (a : Act) (w : World), wpAnyT P md ops Q S1 S0 c fuel listed a w → wpAny P md ops Q fuel listed a w
  | 0, _, _, _, h => h
  | fuel + 1, _, _, _, h => ⟨h.1, fun i hi => wpOp_mono (fun a' w' h' => wpAny_of_T fuel _ a' w' h'.2) (h.2 i hi)⟩
theorem hold_set {i : Nat} {listed : Array Bool} {w : World} (h : i ≠ c) : Hold S1 S0 c (listed.setIfInBounds i true) w ↔ Hold S1 S0 c listed w := by
  unfold Hold
  rw [getD_set_ne true h]
theorem wpAnyT_first {S : World → Prop} {i : Nat} {oi : Oper} {v : Value} (G : Array Bool → Prop) (hG : ∀ listed j, G listed → i ∈ Region.ready md ops listed → j ∈ Region.ready md ops listed → j ≠ i → G (listed.setIfInBounds j true)) (hGS : ∀ listed w, G listed → Hold S1 S0 c listed w → S w)
    (hic : i ≠ c) (hi : ops[i]? = some oi) (hsel : ∀ (j : Nat) (o : Oper) cs b, ops[j]? = some o → o.op ≠ .select cs b) (hQ : ∀ c a w, Q (.panic c) (a.put oi.dst v) w → Q (.panic c) a w) :
    ∀ (fuel : Nat) (listed : Array Bool) (a : Act) (w : World),
      (∀ j oj, ops[j]? = some oj → j ≠ i → listed.getD j true = false → (∀ e ∈ oj.after, Region.binds md e = true → e.on ≠ i) → oi.apart ops oj = true) →
      i ∈ Region.ready md ops listed → YieldsIf P ops S oi v a → G listed → Hold S1 S0 c listed w →
      wpAnyT P md ops Q S1 S0 c fuel (listed.setIfInBounds i true) (a.put oi.dst v) w → wpAnyT P md ops Q S1 S0 c (fuel + 1) listed a w := by
  intro fuel
  induction fuel with
  | zero =>
    intro listed a w _ hr hy hg hS H
    refine ⟨fun h => (by rw [h] at hr; cases hr), fun j hj => ?_⟩
    by_cases hji : j = i
    · subst hji; exact hy.wpOp hi (hGS _ _ hg hS) ⟨(hold_set hic).2 hS, H⟩
    · have := ready_mono hj hji
      rw [H.1] at this
      cases this
  | succ fuel ih =>
    intro listed a w hfree hr hy hg hS H
    refine ⟨fun h => (by rw [h] at hr; cases hr), fun j hj => ?_⟩
    by_cases hji : j = i
    · subst hji; exact hy.wpOp hi (hGS _ _ hg hS) ⟨(hold_set hic).2 hS, H⟩
    · have h1 := H.2 j (ready_mono hj hji)
      obtain ⟨hjun, oj, hoj, hall⟩ := mem_ready.1 hj
      have h0 := (mem_ready.1 hr).1
      have hnot : ∀ e ∈ oj.after, Region.binds md e = true → e.on ≠ i := fun e he hb heq => by
        have h1 := hall e he hb
        rw [heq] at h1
        rcases Nat.lt_or_ge i listed.size with h' | h'
        · simp [h'] at h0 h1; rw [h0] at h1; cases h1
        · simp [Array.getElem?_eq_none h'] at h1
      have h2 := wpOp_putIf hoj (hfree j oj hoj hji hjun hnot) (fun cs b => hsel i oi cs b hi) (fun cs b => hsel j oj cs b hoj) hQ hy h1
      have hfree' : ∀ k ok, ops[k]? = some ok → k ≠ i → (listed.setIfInBounds j true).getD k true = false →
          (∀ e ∈ ok.after, Region.binds md e = true → e.on ≠ i) → oi.apart ops ok = true := fun k ok hk hki hun hno => by
        refine hfree k ok hk hki ?_ hno
        by_cases hjk : j = k
        · subst hjk; exact hjun
        · rw [getD_set_ne true hjk] at hun; exact hun
      refine wpOp_mono (fun a' w' h3 => ?_) h2
      obtain ⟨h4, h5, h6⟩ := h3
      rw [← Array.setIfInBounds_comm _ _ hji] at h5 h6
      have h7 := (hold_set hic).1 h5
      exact ⟨h7, ih (listed.setIfInBounds j true) a' w' hfree' (ready_mono hr (Ne.symm hji)) h4 (hG listed j hg hr hj hji) h7 h6⟩
/-- Number i is taken first: it yields v wherever S1 holds. -/
theorem wpAnyT_take {i : Nat} {oi : Oper} {v : Value} {fuel : Nat} {listed : Array Bool} {a : Act} {w : World} (hi : ops[i]? = some oi)
    (hs : Region.noSelect ops = true) (hf : Region.free md ops listed i = true) (hr : (Region.ready md ops listed).contains i = true) (hic : i ≠ c)
    (hQ : ∀ c a w, Q (.panic c) (a.put oi.dst v) w → Q (.panic c) a w) (hy : YieldsIf P ops S1 oi v a) (hS : Hold S1 S0 c listed w)
    (h : wpAnyT P md ops Q S1 S0 c fuel (listed.setIfInBounds i true) (a.put oi.dst v) w) : wpAnyT P md ops Q S1 S0 c (fuel + 1) listed a w :=
  wpAnyT_first (S := S1) (fun _ => True) (fun _ _ _ _ _ _ => trivial) (fun _ _ _ hh => hh.1) hic hi (Region.noSelect_spec hs) hQ fuel listed a w (Region.free_spec hi hf) (by simpa using hr) hy trivial hS h
/-- Number c waits for number i. -/
def waits (md : Region.Mode) (ops : Array Oper) (c i : Nat) : Bool := match ops[c]? with | some o => o.after.any (fun e => Region.binds md e && e.on == i) | none => false
/-- .. it yields v wherever S1 and S0 hold, and number c waits for it. -/
theorem wpAnyT_take0 {i : Nat} {oi : Oper} {v : Value} {fuel : Nat} {listed : Array Bool} {a : Act} {w : World} (hi : ops[i]? = some oi)
    (hs : Region.noSelect ops = true) (hf : Region.free md ops listed i = true) (hr : (Region.ready md ops listed).contains i = true) (hic : i ≠ c) (hw : waits md ops c i = true) (hc : listed.getD c true = false)
    (hQ : ∀ c a w, Q (.panic c) (a.put oi.dst v) w → Q (.panic c) a w) (hy : YieldsIf P ops (fun w => S1 w ∧ S0 w) oi v a) (hS : Hold S1 S0 c listed w)
    (h : wpAnyT P md ops Q S1 S0 c fuel (listed.setIfInBounds i true) (a.put oi.dst v) w) : wpAnyT P md ops Q S1 S0 c (fuel + 1) listed a w :=
  wpAnyT_first (S := fun w => S1 w ∧ S0 w) (fun l => l.getD c true = false) (fun l j hl hir hjr hji => by
    by_cases hjc : j = c
    · exfalso
      subst hjc
      obtain ⟨_, o, ho, hall⟩ := mem_ready.1 hjr
      unfold waits at hw
      rw [ho] at hw
      simp only [Array.any_eq_true, Bool.and_eq_true, beq_iff_eq] at hw
      obtain ⟨k, hk, hb, he⟩ := hw
      have h1 := hall _ (Array.getElem_mem hk) hb
      have h0 := (mem_ready.1 hir).1
      rw [he] at h1
      rcases Nat.lt_or_ge i l.size with h' | h'
      · simp [h'] at h0 h1; rw [h0] at h1; cases h1
      · simp [Array.getElem?_eq_none h'] at h1
    · rw [getD_set_ne true hjc]
      exact hl) (fun l w hl hh => ⟨hh.1, hh.2 hl⟩) hic hi (Region.noSelect_spec hs) hQ fuel listed a w (Region.free_spec hi hf) (by simpa using hr) hy hc hS h
/-- Each of the operations rs comes up next. -/
def AllReadyT (P : Program) (md : Region.Mode) (ops : Array Oper) (Q : Exit → Act → World → Prop) (S1 S0 : World → Prop) (c fuel : Nat) (listed : Array Bool) (a : Act) (w : World) (rs : List Nat) : Prop :=
  ∀ i ∈ rs, wpOp P ops Q i (fun a' w' => Hold S1 S0 c (listed.setIfInBounds i true) w' ∧ wpAnyT P md ops Q S1 S0 c fuel (listed.setIfInBounds i true) a' w') a w
theorem AllReadyT.nil {fuel : Nat} {listed : Array Bool} {a : Act} {w : World} : AllReadyT P md ops Q S1 S0 c fuel listed a w [] := fun _ h => by cases h
theorem AllReadyT.cons {fuel : Nat} {listed : Array Bool} {a : Act} {w : World} {i : Nat} {o : Oper} {rs : List Nat} (ho : ops[i]? = some o)
    (h : ∀ K' : Act → World → Prop, Shut (∀ a w, Hold S1 S0 c (listed.setIfInBounds i true) w → (Hold S1 S0 c (listed.setIfInBounds i true) w → wpAnyT P md ops Q S1 S0 c fuel (listed.setIfInBounds i true) a w) → K' a w) → if Region.wanted o (yielded ops a.tmps) = true then Oper.wp P o a w K' Q else K' (a.put o.dst undef) w)
    (hs : AllReadyT P md ops Q S1 S0 c fuel listed a w rs) : AllReadyT P md ops Q S1 S0 c fuel listed a w (i :: rs) := fun j hj => by
  rcases List.mem_cons.1 hj with rfl | hj
  · exact wpOp_step ho (fun K' hK => h K' (fun a w hS hW => hK a w ⟨hS, hW hS⟩))
  · exact hs j hj
theorem wpAnyT_ready {rs : List Nat} {fuel : Nat} {listed : Array Bool} {a : Act} {w : World} (hr : Region.ready md ops listed = rs) (hne : rs ≠ [])
    (h : AllReadyT P md ops Q S1 S0 c fuel listed a w rs) : wpAnyT P md ops Q S1 S0 c (fuel + 1) listed a w := ⟨fun h0 => absurd (hr ▸ h0) hne, hr ▸ h⟩
theorem wpAnyT_done {listed : Array Bool} {a : Act} {w : World} (hr : Region.ready md ops listed = []) (h : Q .normal a w) : ∀ fuel, wpAnyT P md ops Q S1 S0 c fuel listed a w
  | 0 => ⟨hr, h⟩
  | _ + 1 => ⟨fun _ => h, by rw [hr]; simp⟩
/-- The beginning. -/
theorem wp_region_T {id : Nat} {a : Act} {w : World} (S1 S0 : World → Prop) (c : Nat) (hm : P.follows .mixedOrders = true) (hS : Hold S1 S0 c (Array.replicate ops.size false) w.drew)
    (h : Hold S1 S0 c (Array.replicate ops.size false) w.drew → wpAnyT P .any ops Q S1 S0 c ops.size (Array.replicate ops.size false) a w.drew) : (Code.region id ops true).wp P Q a w :=
  wp_region_any hm (wpAny_of_T _ _ _ _ (h hS))
end
end Kt
end Go.Proofs.YtoeeddfinmfnoaaDoor
