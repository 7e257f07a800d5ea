import Derived.Test.YteekonojmpihlaaDoorQNmNamed
/- Where spread's loop over the kids stands. -/
namespace Go.Proofs.YteekonojmpihlaaDoor
namespace Kt
end Kt
namespace St
end St
namespace Sp
end Sp
namespace Bk
end Bk
namespace Tr
end Tr
open Go Go.RowKit Kt St Sp Bk Tr
namespace Bo
variable {E : Nat → Addr} {b0 sp p base nl c pn pc j : Nat} {ks : List Nd} {a pa : Option Addr} {path : List (List UInt8)} {R : Nat → Int × Nat × List Nd} {W W5 W7 w8 : World}
structure SpL (E : Nat → Addr) (b0 sp p base : Nat) (ks : List Nd) (a : Option Addr) (nl c : Nat) (path : List (List UInt8)) (pa : Option Addr) (pn pc : Nat) (R : Nat → Int × Nat × List Nd) (W5 : World) (j : Nat) (W : World) : Prop where
  ex : ∃ (ms : List Nd) (pa' : Option Addr) (pc' : Nat), ms.length = j ∧ ((R j).1 = 0 → ms.map er = (R j).2.2) ∧ W.ownsRow base 37 9 (.slice a nl c) nl (ms.flatMap cells ++ (ks.drop j).flatMap cells) ∧ (∀ x ∈ ms, Is W.heap.size W x ∧ Bl (fun q => base ≤ q ∧ (Value.slice a nl c).ownBlock ≠ some q ∧ (Value.slice pa' pn pc').ownBlock ≠ some q) x) ∧
    SpS b0 W sp p (R j).2.1 (ee E (R j).1) path pa' pn pc' ∧ Fr (So sp pa' pn pc') (So sp pa pn pc) W5.heap.size
  mod : Mod ((Value.slice a nl c).ownBlock.toList ++ So sp pa pn pc) W5 W
/-- One kid more: what it is spread to is stored at its place. -/
theorem SpL.step {g : Nat} {ms : List Nd} {pa' pa'' : Option Addr} {pc' pc'' : Nat} {r : Int × Nat × Nd} (hml : ms.length = j) (hme : (R j).1 = 0 → ms.map er = (R j).2.2) (hown : W.ownsRow base 37 9 (.slice (some ⟨g, 0, none⟩) nl c) nl (ms.flatMap cells ++ (ks.drop j).flatMap cells))
    (hmk : ∀ x ∈ ms, Is W.heap.size W x ∧ Bl (fun q => base ≤ q ∧ (Value.slice (some ⟨g, 0, none⟩) nl c).ownBlock ≠ some q ∧ (Value.slice pa' pn pc').ownBlock ≠ some q) x) (hS : SpS b0 W sp p (R j).2.1 (ee E (R j).1) path pa' pn pc') (hF : Fr (So sp pa' pn pc') (So sp pa pn pc) W5.heap.size) (hM : Mod ((Value.slice (some ⟨g, 0, none⟩) nl c).ownBlock.toList ++ So sp pa pn pc) W5 W)
    (hspb : ∀ k ∈ So sp pa pn pc, k < base) (hg5 : g < W5.heap.size) (_hbs : base ≤ W5.heap.size) (hj : j < ks.length) (hks : ∀ n ∈ ks, n.set.length = 4) (hb7 : Below W.heap.size W W7)
    (hR1 : (R (j + 1)).1 = r.1) (hR2 : (R (j + 1)).2.1 = r.2.1) (hR3 : (R (j + 1)).1 = 0 → (R j).1 = 0 ∧ (R (j + 1)).2.2 = (R j).2.2 ++ [r.2.2])
    (m : Nd) (q1 : SpS b0 w8 sp p r.2.1 (ee E r.1) path pa'' pn pc'') (q2 : r.1 = 0 → er m = r.2.2) (q3 : Is w8.heap.size w8 m) (q4 : Bl (fun q => W7.heap.size ≤ q ∧ (Value.slice pa'' pn pc'').ownBlock ≠ some q) m) (q5 : Mod (So sp pa' pn pc') W7 w8) (q6 : Fr (So sp pa'' pn pc'') (So sp pa' pn pc') W7.heap.size)
    (v0 v1 v2 v3 v4 v5 v6 v7 v8 : Value) (hv : cells m = [v0, v1, v2, v3, v4, v5, v6, v7, v8]) : SpL E b0 sp p base ks (some ⟨g, 0, none⟩) nl c path pa pn pc R W5 (j + 1) (put9o w8 g (j * 9) v0 v1 v2 v3 v4 v5 v6 v7 v8) := by
  have hgb : base ≤ g := (hown.lt g rfl).1
  have hgl : g < W.heap.size := (hown.lt g rfl).2
  have hgs : ∀ k ∈ So sp pa pn pc, k ≠ g := fun k hk e => by have := hspb k hk; omega
  have hg' : ∀ k ∈ So sp pa' pn pc', k ≠ g := fun k hk e => by
    rcases hF k hk with h | h
    · exact hgs k h e
    · omega
  have hz7 := hb7.size
  have hz5 := hM.size
  have hg'' : ∀ k ∈ So sp pa'' pn pc'', k ≠ g := fun k hk e => by
    rcases q6 k hk with h | h
    · exact hg' k h e
    · omega
  have hdr : ks.drop j = ks[j] :: ks.drop (j + 1) := (List.getElem_cons_drop hj).symm
  have hlist : ms.flatMap cells ++ (ks.drop j).flatMap cells = ms.flatMap cells ++ cells ks[j] ++ (ks.drop (j + 1)).flatMap cells := by rw [hdr, List.flatMap_cons, List.append_assoc]
  rw [hlist] at hown
  have hpl : (ms.flatMap cells).length = j * 9 := by rw [flat_len ms (fun x hx => (hmk x hx).1.len), hml]
  have own8 := own_mod (own_keep hown hb7) q5 (fun k hk hq => hg' k hq (by simpa [Value.ownBlock] using hk.symm))
  obtain ⟨own9, m9⟩ := row_put own8 hpl (cells_len _ (hks _ (List.getElem_mem hj))) v0 v1 v2 v3 v4 v5 v6 v7 v8
  rw [← hv] at own9
  have hno : ∀ q, (Value.slice (some ⟨g, 0, none⟩) nl c).ownBlock ≠ some q ↔ q ≠ g := fun q => by simp [Value.ownBlock]; exact ⟨fun h e => h e.symm, fun h e => h e.symm⟩
  refine ⟨⟨ms ++ [m], pa'', pc'', by simp [hml], fun h0 => ?_, ?_, ?_, ?_, ?_⟩, ?_⟩
  · obtain ⟨h1, h2⟩ := hR3 h0
    rw [h2, List.map_append, hme h1, List.map_cons, List.map_nil, q2 (by rw [← hR1]; exact h0)]
  · rw [List.flatMap_append, show [m].flatMap cells = cells m by simp]
    exact own9
  · intro x hx
    rcases List.mem_append.1 hx with hx | hx
    · obtain ⟨h1, h2⟩ := hmk x hx
      have h7 := Is.mono hz7 (Is.below hb7 h1)
      have h8 : Is w8.heap.size w8 x := is_mod h7 h2 q5 (fun b hb => .inl fun hq => by
        simp only [List.mem_cons, Option.mem_toList] at hb
        rcases hb with rfl | hb
        · have := hspb b (by simp); omega
        · exact hq.2.2 hb)
      refine ⟨is_mod h8 h2 m9 (fun b hb => .inl fun hq => (hno b).1 hq.2.1 (by simpa using hb)), Bl.both h2 (Is.bl h1) fun q hq hl => ⟨hq.1, hq.2.1, fun e => ?_⟩⟩
      rcases q6 q (List.mem_cons_of_mem _ (by simp [e])) with h | h
      · simp only [List.mem_cons, Option.mem_toList] at h
        rcases h with rfl | h
        · have := hspb q (by simp); omega
        · exact hq.2.2 h
      · omega
    · simp only [List.mem_singleton] at hx
      subst hx
      refine ⟨is_mod q3 q4 m9 (fun b hb => .inl fun hq => by simp at hb; omega), q4.mono fun q hq => ⟨by omega, (hno q).2 (by omega), hq.2⟩⟩
  · rw [hR1, hR2]
    exact q1.mod m9 (fun b hb hq => hg'' b hq (by simpa using hb))
  · exact fun k hk => by
      rcases q6 k hk with h | h
      · exact hF k h
      · exact .inr (by omega)
  · refine ((hM.trans (Mod.of_below hb7 ((Value.slice (some ⟨g, 0, none⟩) nl c).ownBlock.toList ++ So sp pa pn pc)) (fun q hq => .inl hq)).trans q5 (fun q hq => ?_)).trans m9 (fun q hq => .inl (by simp at hq; subst hq; simp [Value.ownBlock]))
    rcases hF q hq with h | h
    · exact .inl (List.mem_append_right _ h)
    · exact .inr h
theorem sprs_le (F : Nat → Nd → Int × Nat × Nd) (hF : ∀ q k, q ≤ 600 → (F q k).2.1 ≤ 600) (q : Nat) (hq : q ≤ 600) (ks : List Nd) : (sprs F q ks).2.1 ≤ 600 := by
  induction ks using Bk.snoc_ind with
  | h0 => exact hq
  | h1 l k ih =>
    rw [sprs_snoc]
    split
    · exact hF _ _ ih
    · exact ih
end Bo
end Go.Proofs.YteekonojmpihlaaDoor
