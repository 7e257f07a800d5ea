import Derived.Test.YteekonojmpihlaaDoorQNmPure
/- A node of a tree as data: told apart as their values are. No program. -/
namespace Go.Proofs.YteekonojmpihlaaDoor
namespace Kt
end Kt
namespace St
end St
namespace Sp
end Sp
namespace Bk
end Bk
namespace Tr
end Tr
open Go Go.RowKit Kt St Sp Bk Tr
namespace Bo
def adr : Option Addr → DataW Unit
  | none => .nil
  | some ⟨b, o, none⟩ => .agg [.lit (.int .u64 (b : Int)), .lit (.int .u64 (o : Int))]
  | some ⟨b, o, some s⟩ => .agg [.lit (.int .u64 (b : Int)), .lit (.int .u64 (o : Int)), .lit (.int .u64 (s : Int))]
theorem adr_inj {a b : Option Addr} (h : adr a = adr b) : a = b := by
  rcases a with _ | ⟨a1, a2, _ | a3⟩ <;> rcases b with _ | ⟨b1, b2, _ | b3⟩ <;> simp [adr] at h ⊢
  · exact ⟨by omega, by omega⟩
  · exact ⟨by omega, by omega, by omega⟩
def ndw (n : Nd) : DataW Unit := .agg [.lit (.int .i64 n.kind), .agg (n.set.map fun x : Nat => .lit (.int .u64 (x : Int))), adr n.a, .lit (.int .i64 (n.kids.length : Int)), .lit (.int .i64 (n.cap : Int)), .lit (.int .i64 n.mn), .lit (.int .i64 n.mx), .lit (.string n.text)]
theorem ndw_iff (a b : Nd) : ndw a = ndw b ↔ nv a = nv b := by
  obtain ⟨k, s, mn, mx, t, p, c, ks⟩ := a
  obtain ⟨k', s', mn', mx', t', p', c', ks'⟩ := b
  have hset : ∀ {s s' : List Nat}, (s.map fun x : Nat => (DataW.lit (H := Unit) (.int .u64 (x : Int)))) = (s'.map fun x : Nat => (DataW.lit (.int .u64 (x : Int)))) ↔ s = s' := by
    intro s
    induction s with
    | nil => intro s'; cases s' <;> simp
    | cons x r ih =>
      intro s'
      cases s' with
      | nil => simp
      | cons y q => simp only [List.map_cons, List.cons.injEq, ih, DataW.lit.injEq, Lit.int.injEq, true_and, Int.ofNat_inj]
  have hw : ∀ {s s' : List Nat}, w64 s = w64 s' ↔ s = s' := by
    intro s
    unfold w64
    induction s with
    | nil => intro s'; cases s' <;> simp
    | cons x r ih =>
      intro s'
      cases s' with
      | nil => simp
      | cons y q => simp only [List.map_cons, List.cons.injEq, ih, Value.int.injEq, true_and, Int.ofNat_inj]
  simp only [ndw, nv, cells, Nd.kind, Nd.set, Nd.a, Nd.kids, Nd.cap, Nd.mn, Nd.mx, Nd.text, DataW.agg.injEq, List.cons.injEq, DataW.lit.injEq, Lit.int.injEq, Lit.string.injEq, true_and, and_true, hset, Value.agg.injEq]
  rw [← Array.toList_inj]
  simp only [List.cons.injEq, Value.int.injEq, true_and]
  constructor
  · rintro ⟨rfl, rfl, h3, h4, h5, rfl, rfl, rfl⟩
    have h3' := adr_inj h3
    subst h3'
    have h4' : ks.length = ks'.length := by omega
    have h5' : c = c' := by omega
    subst h5'
    rw [h4']
    exact ⟨rfl, rfl⟩
  · rintro ⟨rfl, h⟩
    have hl := congrArg List.length h
    simp only [List.length_append, List.length_cons, List.length_nil, w64, List.length_map] at hl
    obtain ⟨h1, h2⟩ := List.append_inj h (by simp only [w64, List.length_map]; omega)
    simp only [List.cons.injEq, Value.slice.injEq, Value.int.injEq, Value.string.injEq, true_and, and_true] at h2
    obtain ⟨⟨rfl, h4, rfl⟩, rfl, rfl, h5⟩ := h2
    exact ⟨rfl, hw.1 h1, rfl, by rw [h4], rfl, rfl, rfl, Str_inj h5⟩
open Classical in
/-- How a node's value reads. -/
noncomputable def rdn (v : Value) : Option (DataW Unit × List MemPlace) := if h : ∃ a : Nd, v = nv a then some (ndw h.choose, []) else none
theorem enc_nv : Enc Nd nv rdn ndw := by
  constructor
  · intro a
    have h : ∃ b : Nd, nv a = nv b := ⟨a, rfl⟩
    unfold rdn
    rw [dif_pos h]
    have h2 : ndw h.choose = ndw a := (ndw_iff _ _).2 h.choose_spec.symm
    rw [h2]
  · intro v a ps h
    unfold rdn at h
    split at h
    · rename_i hx
      simp only [Option.some.injEq, Prod.mk.injEq] at h
      rw [← (ndw_iff _ _).1 h.1]
      exact hx.choose_spec
    · cases h
end Bo
end Go.Proofs.YteekonojmpihlaaDoor
