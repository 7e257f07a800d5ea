/- Plain law of chapter 30: what all accounts hold together; the owners by buffers. No program. -/
import Derived.Test.YtpjimmdpcpcmoaaDoorQPoolPure
namespace Go.Proofs.YtpjimmdpcpcmoaaDoor
namespace Po
theorem sum_zero : ∀ zs : List Int, (zs.map fun _ => (0 : Nat)).sum = 0
  | [] => rfl
  | _ :: zs => by rw [List.map_cons, List.sum_cons, sum_zero zs]
theorem sum_ind (o : Int) : ∀ {zs : List Int}, zs.Nodup → o ∈ zs → 0 ≤ o → (zs.map fun x => if o = x ∧ 0 ≤ x then 1 else 0).sum = 1
  | [], _, h, _ => by cases h
  | z :: zs, hn, h, h0 => by
    rw [List.nodup_cons] at hn
    by_cases hz : o = z
    · subst hz
      have : (zs.map fun x => if o = x ∧ 0 ≤ x then 1 else 0).sum = 0 := by
        rw [show (zs.map fun x => if o = x ∧ 0 ≤ x then 1 else 0) = zs.map fun _ => 0 from List.map_congr_left fun x hx => by rw [if_neg]; rintro ⟨rfl, _⟩; exact hn.1 hx]
        exact sum_zero zs
      simp [this, h0]
    · have := sum_ind o hn.2 (by rcases List.mem_cons.1 h with h1 | h1; exact absurd h1 hz; exact h1) h0
      simp [hz, this]
theorem held_cons (o : Int) (own : List Int) (x : Int) : held (o :: own) x = held own x + (if o = x ∧ 0 ≤ x then 1 else 0) := by
  unfold held
  rw [List.countP_cons]
  simp
theorem sum_add (zs : List Int) (f g : Int → Nat) : (zs.map fun x => f x + g x).sum = (zs.map f).sum + (zs.map g).sum := by
  induction zs with
  | nil => rfl
  | cons z zs ih => simp only [List.map_cons, List.sum_cons, ih]; omega
/-- What all accounts hold is what is held. -/
theorem sum_held {zs : List Int} (hn : zs.Nodup) : ∀ {own : List Int}, (∀ o ∈ own, o = -1 ∨ (0 ≤ o ∧ o ∈ zs)) → (zs.map (held own)).sum = used own
  | [], _ => by
    have : zs.map (held []) = zs.map fun _ => 0 := List.map_congr_left fun x _ => rfl
    rw [this, sum_zero]
    rfl
  | o :: own, h => by
    have ih := sum_held hn (own := own) (fun x hx => h x (List.mem_cons_of_mem _ hx))
    rw [show zs.map (held (o :: own)) = zs.map fun x => held own x + (if o = x ∧ 0 ≤ x then 1 else 0) from List.map_congr_left fun x _ => held_cons o own x, sum_add, ih]
    have hu : used (o :: own) = used own + (if 0 ≤ o then 1 else 0) := by unfold used; rw [List.countP_cons]; simp
    rw [hu]
    congr 1
    rcases h o (by simp) with h1 | ⟨h1, h2⟩
    · subst h1
      rw [if_neg (by omega), show (zs.map fun x => if (-1 : Int) = x ∧ 0 ≤ x then 1 else 0) = zs.map fun _ => 0 from List.map_congr_left fun x _ => by rw [if_neg (by omega)], sum_zero]
    · rw [if_pos h1, sum_ind o hn h2 h1]
theorem sum_acc {m : Md} (h : Ok m) {zs : List Int} (hp : zs.Perm (m.acc.map (·.1))) : (zs.map (held m.own)).sum = used m.own := by
  refine sum_held (hp.nodup_iff.2 h.nd) fun o ho => ?_
  rcases h.ow o ho with h1 | ⟨h1, h2⟩
  · exact .inl h1
  · refine .inr ⟨h1, hp.mem_iff.2 ?_⟩
    rcases Decidable.em (o ∈ m.acc.map (·.1)) with h3 | h3
    · exact h3
    · rw [crd_none.2 h3] at h2; cases h2
/-- The owners by buffers, as a map. -/
structure Ow (l : List (Int × Int)) (own : List Int) : Prop where
  at' : ∀ b, crd l b = if 0 ≤ b then (match own[b.toNat]? with | some x => if 0 ≤ x then some x else none | none => none) else none
  len : l.length = used own
theorem Ow.start (n : Nat) : Ow [] (List.replicate n (-1)) := by
  refine ⟨fun b => ?_, ?_⟩
  · have h : crd [] b = none := rfl
    rw [h]
    split
    · rw [List.getElem?_replicate]
      split <;> rename_i heq
      · split at heq
        · simp at heq; subst heq; rfl
        · cases heq
      · rfl
    · rfl
  · symm
    unfold used
    simp only [List.length_nil]
    rw [List.countP_eq_zero]
    intro o ho
    rw [List.eq_of_mem_replicate ho]
    decide
theorem Ow.take {l : List (Int × Int)} {own : List Int} (h : Ow l own) {i : Nat} (hi : i < own.length) (hf : own[i] < 0) {x : Int} (hx : 0 ≤ x) : crd l i = none ∧ Ow (l ++ [((i : Int), x)]) (own.set i x) := by
  have hno : crd l i = none := by
    rw [h.at' i, if_pos (by omega), Int.toNat_natCast, List.getElem?_eq_getElem hi]
    simp only
    rw [if_neg (by omega)]
  refine ⟨hno, ⟨fun b => ?_, ?_⟩⟩
  · rw [crd_snoc hno]
    by_cases hb : b = (i : Int)
    · subst hb
      rw [if_pos rfl, if_pos (by omega), Int.toNat_natCast, List.getElem?_set_self hi]
      simp only
      rw [if_pos hx]
    · rw [if_neg hb, h.at' b]
      by_cases h0 : 0 ≤ b
      · rw [if_pos h0, if_pos h0, List.getElem?_set_ne (by omega)]
      · rw [if_neg h0, if_neg h0]
  · have := used_set hi x
    rw [if_neg (by omega), if_pos hx] at this
    rw [List.length_append, h.len]
    simp
    omega
theorem Ow.give {l : List (Int × Int)} {own : List Int} (h : Ow l own) (hnd : (l.map (·.1)).Nodup) {i : Nat} (hi : i < own.length) {x : Int} (hf : own[i] = x) (hx : 0 ≤ x) : crd l i = some x ∧ Ow (l.filter fun p => !decide (p.1 = (i : Int))) (own.set i (-1)) := by
  have hyes : crd l i = some x := by
    rw [h.at' i, if_pos (by omega), Int.toNat_natCast, List.getElem?_eq_getElem hi]
    simp only
    rw [hf, if_pos hx]
  refine ⟨hyes, ⟨fun b => ?_, ?_⟩⟩
  · rw [crd_filter]
    by_cases hb : b = (i : Int)
    · subst hb
      rw [if_pos rfl, if_pos (by omega), Int.toNat_natCast, List.getElem?_set_self hi]
      simp only
      rw [if_neg (by omega)]
    · rw [if_neg hb, h.at' b]
      by_cases h0 : 0 ≤ b
      · rw [if_pos h0, if_pos h0, List.getElem?_set_ne (by omega)]
      · rw [if_neg h0, if_neg h0]
  · have h1 := used_set hi (-1)
    rw [hf, if_pos hx, if_neg (by omega)] at h1
    have h2 := List.length_eq_countP_add_countP (fun p : Int × Int => decide (p.1 = (i : Int))) (l := l)
    have hmem : (i : Int) ∈ l.map (·.1) := List.mem_map.2 ⟨_, crd_mem hyes, rfl⟩
    have h4 : l.countP (fun p => decide (p.1 = (i : Int))) = 1 := by
      have h5 : l.countP (fun p => decide (p.1 = (i : Int))) = (l.map (·.1)).count (i : Int) := by
        rw [List.count, List.countP_map]
        rfl
      have h6 := List.nodup_iff_count.1 hnd (i : Int)
      have h7 := List.count_pos_iff.2 hmem
      omega
    have h6 : (l.filter fun p => !decide (p.1 = (i : Int))).length = l.countP (fun p => decide ¬ (decide (p.1 = (i : Int)) = true)) := by
      rw [List.countP_eq_length_filter]
      congr 2
      funext p
      by_cases hp : p.1 = (i : Int) <;> simp [hp]
    have := h.len
    omega
end Po
end Go.Proofs.YtpjimmdpcpcmoaaDoor
