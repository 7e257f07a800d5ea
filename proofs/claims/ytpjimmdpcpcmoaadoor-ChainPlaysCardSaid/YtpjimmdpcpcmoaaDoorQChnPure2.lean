import Derived.Test.YtpjimmdpcpcmoaaDoorQChnPure
/- Plain law of chapter 31, second part: dropping bytes, pushing many, two chains. No program. -/
namespace Go.Proofs.YtpjimmdpcpcmoaaDoor
namespace Ch
open Po
/-! ### Giving back -/
/-- The first j buffers of l are given back. -/
structure Gv (m : Md) (x : Int) (l : List Nat) (j : Nat) (m' : Md) : Prop where
  ok : Po.Ok m'
  on : Only x m m'
  hd : held m'.own x + j = l.length
  ow : ∀ b ∈ l.drop j, m'.own[b]? = some x
  by' : ∀ q t, byt m' q t = byt m q t
theorem Gv.start {m : Md} {l : List Nat} {c : Cn} (hp : Po.Ok m) (h : Ok m l c) : Gv m c.acc l 0 m := ⟨hp, Only.refl _ _, by rw [h.hd]; rfl, fun b hb => h.ow b (by simpa using hb), fun _ _ => rfl⟩
theorem Gv.step {m m' : Md} {x : Int} {l : List Nat} {j : Nat} (hx : 0 ≤ x) (ho : (crd m.acc x).isSome = true) (hn : l.Nodup) (h : Gv m x l j m') (hj : j < l.length) : hldE m' x (l[j] : Int) = 0 ∧ Gv m x l (j + 1) (giv m' x (l[j] : Int)) := by
  have ho' : (crd m'.acc x).isSome = true := by rw [h.on.acc]; exact ho
  have hm : l[j] ∈ l.drop j := by rw [List.drop_eq_getElem_cons hj]; exact List.mem_cons_self
  have how := h.ow _ hm
  obtain ⟨g1, g2, g3, g4⟩ := giv_only hx ho' how
  refine ⟨hld_zero ho' how, giv_ok h.ok _ _, h.on.trans g4, by have := h.hd; omega, fun b hb => ?_, fun q t => (g3 q t).trans (h.by' q t)⟩
  have hne : b ≠ l[j] := by
    rintro rfl
    have hd : (l.drop j).Nodup := hn.sublist (List.drop_sublist _ _)
    rw [List.drop_eq_getElem_cons hj] at hd
    exact (List.nodup_cons.1 hd).1 hb
  rw [g2 b hne]
  exact h.ow b (by rw [List.drop_eq_getElem_cons hj]; exact List.mem_cons_of_mem _ hb)
/-- How many buffers are given back, and where the first byte stands then. -/
def dk (s f n k : Nat) : Nat := if n = k then need s f k else (f + n) / s
def df (s f n k : Nat) : Nat := if n = k then 0 else (f + n) % s
theorem dk_le {s f n k : Nat} (hs : 0 < s) (hn : n ≤ k) : dk s f n k ≤ need s f k := by
  unfold dk
  split
  · exact Nat.le_refl _
  · exact Nat.le_of_lt (need_lt hs (by omega))
theorem Ok.drop {m m' : Md} {l : List Nat} {c : Cn} (hp : Po.Ok m) (h : Ok m l c) {n : Nat} (hn : n ≤ c.all.length) (hg : Gv m c.acc l (dk m.size c.frm n c.all.length) m') :
    Ok m' (l.drop (dk m.size c.frm n c.all.length)) { c with frm := df m.size c.frm n c.all.length, all := c.all.drop n, went := c.went + n } := by
  have hs : 0 < m.size := by have := hp.s1; omega
  have hle := dk_le (f := c.frm) hs hn
  have hln := h.ln
  have hcw := h.cw
  have hlen : (l.drop (dk m.size c.frm n c.all.length)).length = need m.size (df m.size c.frm n c.all.length) (c.all.length - n) := by
    rw [List.length_drop, hln]
    unfold dk df
    by_cases e : n = c.all.length
    · rw [if_pos e, if_pos e]
      subst e
      simp [need]
    · rw [if_neg e, if_neg e]
      unfold need
      rw [if_neg (by omega), if_neg (by omega)]
      have e1 := Nat.div_add_mod (c.frm + n) m.size
      have e2 : (c.frm + n) % m.size + (c.all.length - n) - 1 + m.size * ((c.frm + n) / m.size) = c.frm + c.all.length - 1 := by omega
      have e3 : ((c.frm + n) % m.size + (c.all.length - n) - 1 + m.size * ((c.frm + n) / m.size)) / m.size = ((c.frm + n) % m.size + (c.all.length - n) - 1) / m.size + (c.frm + n) / m.size := Nat.add_mul_div_left _ _ hs
      rw [e2] at e3
      rw [e3]
      generalize ((c.frm + n) % m.size + (c.all.length - n) - 1) / m.size = A
      generalize (c.frm + n) / m.size = B
      omega
  refine ⟨by simp only; rw [hg.on.acc]; exact h.op, by have := hg.hd; simp only; rw [List.length_drop]; omega, hg.ow, h.nd.sublist (List.drop_sublist _ _), ?_, by simp only; rw [hg.on.size, hlen, List.length_drop], ?_, by simp only [List.length_drop]; omega, ?_⟩
  · simp only
    rw [hg.on.size]
    unfold df
    split
    · exact hs
    · exact Nat.mod_lt _ hs
  · intro e
    simp only at e ⊢
    have : c.all.length ≤ n := by simpa using e
    unfold df
    rw [if_pos (by omega)]
  · intro i hi
    simp only [List.length_drop] at hi
    have hne : ¬ n = c.all.length := by omega
    obtain ⟨b, h1, h2⟩ := h.byte (n + i) (by omega)
    have e1 := Nat.div_add_mod (c.frm + n) m.size
    have e0 : c.frm + (n + i) = (c.frm + n) % m.size + i + m.size * ((c.frm + n) / m.size) := by omega
    have e2 : (c.frm + (n + i)) / m.size = ((c.frm + n) % m.size + i) / m.size + (c.frm + n) / m.size := by rw [e0]; exact Nat.add_mul_div_left _ _ hs
    have e3 : (c.frm + (n + i)) % m.size = ((c.frm + n) % m.size + i) % m.size := by rw [e0]; exact Nat.add_mul_mod_self_left _ _ _
    refine ⟨b, ?_, ?_⟩
    · simp only
      rw [hg.on.size]
      unfold df dk
      rw [if_neg hne, if_neg hne, List.getElem?_drop, Nat.add_comm, ← e2]
      exact h1
    · simp only
      rw [hg.on.size, hg.by']
      unfold df
      rw [if_neg hne, ← e3, h2]
      simp
/-! ### Pushing many -/
/-- How many of k bytes are pushed behind n, and the error. -/
def psh (E : Nat → Int) : Nat → Nat → Nat × Int
  | _, 0 => (0, 0)
  | n, k + 1 => if E n = 0 then ((psh E (n + 1) k).1 + 1, (psh E (n + 1) k).2) else (0, E n)
theorem psh_fail {E : Nat → Int} : ∀ {k n j : Nat}, j < k → (∀ i, i < j → E (n + i) = 0) → E (n + j) ≠ 0 → psh E n k = (j, E (n + j))
  | 0, _, _, h, _, _ => absurd h (Nat.not_lt_zero _)
  | k + 1, n, 0, _, _, h3 => by
    rw [Nat.add_zero] at h3
    unfold psh
    rw [if_neg h3]
    rfl
  | k + 1, n, j + 1, h1, h2, h3 => by
    unfold psh
    rw [if_pos (by simpa using h2 0 (by omega)), psh_fail (k := k) (n := n + 1) (j := j) (by omega) (fun i hi => by rw [Nat.add_assoc, Nat.add_comm 1 i]; exact h2 (i + 1) (by omega)) (by rw [Nat.add_assoc, Nat.add_comm 1 j]; exact h3), Nat.add_assoc, Nat.add_comm 1 j]
theorem psh_all {E : Nat → Int} : ∀ {k n : Nat}, (∀ i, i < k → E (n + i) = 0) → psh E n k = (k, 0)
  | 0, _, _ => rfl
  | k + 1, n, h => by
    unfold psh
    rw [if_pos (by simpa using h 0 (by omega)), psh_all (k := k) (n := n + 1) (fun i hi => by rw [Nat.add_assoc, Nat.add_comm 1 i]; exact h (i + 1) (by omega))]
theorem psh_spec (E : Nat → Int) : ∀ (k n : Nat), (∀ i, i < (psh E n k).1 → E (n + i) = 0) ∧ (((psh E n k).1 = k ∧ (psh E n k).2 = 0) ∨ ((psh E n k).1 < k ∧ (psh E n k).2 ≠ 0 ∧ (psh E n k).2 = E (n + (psh E n k).1)))
  | 0, n => by simp [psh]
  | k + 1, n => by
    unfold psh
    by_cases h : E n = 0
    · rw [if_pos h]
      obtain ⟨h1, h2⟩ := psh_spec E k (n + 1)
      refine ⟨fun i hi => ?_, ?_⟩
      · cases i with
        | zero => simpa using h
        | succ i => have := h1 i (by simpa using hi); rw [Nat.add_assoc, Nat.add_comm 1 i] at this; exact this
      · rcases h2 with ⟨h3, h4⟩ | ⟨h3, h4, h5⟩
        · exact .inl ⟨by simp only; omega, h4⟩
        · refine .inr ⟨by simp only; omega, h4, ?_⟩
          simp only
          rw [h5, Nat.add_assoc, Nat.add_comm 1]
    · rw [if_neg h]
      exact ⟨fun i hi => absurd hi (Nat.not_lt_zero _), .inr ⟨by simp, h, by simp⟩⟩
/-! ### Two accounts -/
end Ch
end Go.Proofs.YtpjimmdpcpcmoaaDoor
