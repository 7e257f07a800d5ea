import Derived.Test.YtpjimmdpcpcmoaaDoorQLib
/- Plain law of chapter 30: buffers that all share. No program. -/
namespace Go.Proofs.YtpjimmdpcpcmoaaDoor
namespace Po
/-- Who holds which buffer (-1: nobody), what each account may hold, what stands in the buffers. -/
structure Md where
  size : Nat
  own : List Int
  acc : List (Int × Int)
  cont : List (List UInt8)
/-- How many an account holds. -/
def held (own : List Int) (x : Int) : Nat := own.countP fun o => decide (o = x) && decide (0 ≤ x)
/-- How many are held. -/
def used (own : List Int) : Nat := own.countP fun o => decide (0 ≤ o)
/-- An account's credit. -/
def crd (acc : List (Int × Int)) (x : Int) : Option Int := (acc.find? fun p => decide (p.1 = x)).map (·.2)
def opnE (m : Md) (x c : Int) : Int := if x < 0 ∨ c < 1 ∨ (m.own.length : Int) < c then 1 else if (crd m.acc x).isSome then 6 else if 64 ≤ m.acc.length then 13 else 0
def opn (m : Md) (x c : Int) : Md := if opnE m x c = 0 then { m with acc := m.acc ++ [(x, c)] } else m
/-- The least free buffer. -/
def free1 (own : List Int) : Option Nat := own.findIdx? fun o => decide (o < 0)
def takE (m : Md) (x : Int) : Int := match crd m.acc x with
  | none => 15
  | some c => if c ≤ (held m.own x : Int) then 14 else if free1 m.own = none then 13 else 0
def takI (m : Md) (x : Int) : Nat := if takE m x = 0 then (free1 m.own).getD 0 else 0
def tak (m : Md) (x : Int) : Md := if takE m x = 0 then { m with own := m.own.set (takI m x) x, cont := m.cont.set (takI m x) (List.replicate m.size 0) } else m
def hldE (m : Md) (x b : Int) : Int := if crd m.acc x = none then 15 else if b < 0 ∨ (m.own.length : Int) ≤ b ∨ m.own[b.toNat]? ≠ some x then 12 else 0
def giv (m : Md) (x b : Int) : Md := if hldE m x b = 0 then { m with own := m.own.set b.toNat (-1) } else m
def plcE (m : Md) (x b at' : Int) : Int := if hldE m x b ≠ 0 then hldE m x b else if at' < 0 ∨ (m.size : Int) ≤ at' then 1 else 0
def put (m : Md) (x b at' : Int) (c : UInt8) : Md := if plcE m x b at' = 0 then { m with cont := m.cont.set b.toNat ((m.cont.getD b.toNat []).set at'.toNat c) } else m
def get (m : Md) (x b at' : Int) : UInt8 := if plcE m x b at' = 0 then (m.cont.getD b.toNat []).getD at'.toNat 0 else 0
/-- What always holds of a pool. -/
structure Ok (m : Md) : Prop where
  n1 : 1 ≤ m.own.length
  n2 : m.own.length ≤ 256
  s1 : 1 ≤ m.size
  s2 : m.size ≤ 64
  ow : ∀ o ∈ m.own, o = -1 ∨ (0 ≤ o ∧ (crd m.acc o).isSome = true)
  nd : (m.acc.map (·.1)).Nodup
  a1 : m.acc.length ≤ 64
  cr : ∀ p ∈ m.acc, 0 ≤ p.1 ∧ 1 ≤ p.2 ∧ p.2 ≤ (m.own.length : Int) ∧ (held m.own p.1 : Int) ≤ p.2
  cl : m.cont.length = m.own.length
  cs : ∀ x ∈ m.cont, x.length = m.size
/-- A new pool. -/
def new (n s : Nat) : Md := ⟨s, List.replicate n (-1), [], List.replicate n (List.replicate s 0)⟩
theorem new_ok {n s : Nat} (h1 : 1 ≤ n) (h2 : n ≤ 256) (h3 : 1 ≤ s) (h4 : s ≤ 64) : Ok (new n s) :=
  ⟨by simpa [new] using h1, by simpa [new] using h2, h3, h4, fun o ho => .inl (List.eq_of_mem_replicate ho), List.nodup_nil, by simp [new], by simp [new], by simp [new], fun x hx => by rw [List.eq_of_mem_replicate hx]; simp [new]⟩
/-! ### Accounts -/
theorem crd_none {acc : List (Int × Int)} {x : Int} : crd acc x = none ↔ x ∉ acc.map (·.1) := by
  simp only [crd, Option.map_eq_none_iff, List.find?_eq_none, decide_eq_true_eq, List.mem_map, not_exists, not_and]
theorem crd_mem {acc : List (Int × Int)} {x c : Int} (h : crd acc x = some c) : (x, c) ∈ acc := by
  simp only [crd, Option.map_eq_some_iff] at h
  obtain ⟨p, h1, rfl⟩ := h
  have h2 := List.find?_some h1
  simp only [decide_eq_true_eq] at h2
  rw [← h2]
  exact List.mem_of_find?_eq_some h1
theorem mem_crd {acc : List (Int × Int)} (hn : (acc.map (·.1)).Nodup) : ∀ {x c : Int}, (x, c) ∈ acc → crd acc x = some c := by
  induction acc with
  | nil => intro x c h; cases h
  | cons a l ih =>
    intro x c h
    rw [List.map_cons, List.nodup_cons] at hn
    rcases List.mem_cons.1 h with rfl | h
    · simp [crd]
    · have hx : ¬ a.1 = x := fun e => hn.1 (List.mem_map.2 ⟨_, h, e.symm⟩)
      have := ih hn.2 h
      unfold crd at this ⊢
      rw [List.find?_cons_of_neg (by simpa using hx)]
      exact this
theorem crd_snoc {acc : List (Int × Int)} {x : Int} (h : crd acc x = none) (c y : Int) : crd (acc ++ [(x, c)]) y = if y = x then some c else crd acc y := by
  unfold crd at h ⊢
  rw [List.find?_append]
  by_cases hy : y = x
  · subst hy
    rw [if_pos rfl]
    simp only [Option.map_eq_none_iff] at h
    rw [h]
    simp
  · rw [if_neg hy]
    have : ¬ x = y := fun e => hy e.symm
    simp [this]
/-! ### Owners -/
theorem count_set {l : List Int} {i : Nat} (h : i < l.length) (p : Int → Bool) (x : Int) : (l.set i x).countP p + (if p l[i] then 1 else 0) = l.countP p + (if p x then 1 else 0) := by
  induction l generalizing i with
  | nil => simp at h
  | cons a l ih =>
    cases i with
    | zero => simp only [List.set_cons_zero, List.countP_cons, List.getElem_cons_zero]; omega
    | succ i =>
      have := ih (i := i) (by simpa using h)
      simp only [List.set_cons_succ, List.countP_cons, List.getElem_cons_succ]
      omega
theorem held_set {l : List Int} {i : Nat} (h : i < l.length) (x y : Int) : held (l.set i x) y + (if l[i] = y ∧ 0 ≤ y then 1 else 0) = held l y + (if x = y ∧ 0 ≤ y then 1 else 0) := by
  have := count_set h (fun o => decide (o = y) && decide (0 ≤ y)) x
  simp only [Bool.and_eq_true, decide_eq_true_eq] at this
  exact this
theorem used_set {l : List Int} {i : Nat} (h : i < l.length) (x : Int) : used (l.set i x) + (if 0 ≤ l[i] then 1 else 0) = used l + (if 0 ≤ x then 1 else 0) := by
  have := count_set h (fun o => decide (0 ≤ o)) x
  simp only [decide_eq_true_eq] at this
  exact this
theorem held_le (l : List Int) (x : Int) : held l x ≤ l.length := List.countP_le_length
theorem used_le (l : List Int) : used l ≤ l.length := List.countP_le_length
theorem free1_some {own : List Int} {i : Nat} (h : free1 own = some i) : ∃ hi : i < own.length, own[i] < 0 ∧ ∀ j (hj : j < i), 0 ≤ own[j] := by
  unfold free1 at h
  rw [List.findIdx?_eq_some_iff_getElem] at h
  obtain ⟨hi, h1, h2⟩ := h
  refine ⟨hi, by simpa using h1, fun j hj => ?_⟩
  have := h2 j hj
  simp at this
  omega
theorem free1_none {own : List Int} (h : free1 own = none) : ∀ o ∈ own, 0 ≤ o := by
  unfold free1 at h
  rw [List.findIdx?_eq_none_iff] at h
  intro o ho
  have := h o ho
  simp at this
  exact this
/-! ### What the calls keep -/
theorem opn_ok {m : Md} (h : Ok m) (x c : Int) : Ok (opn m x c) := by
  unfold opn
  split
  · rename_i he
    unfold opnE at he
    split at he
    · simp at he
    · rename_i h1
      split at he
      · simp at he
      · rename_i h2
        split at he
        · simp at he
        · rename_i h3
          have hno : crd m.acc x = none := by simpa using h2
          refine ⟨h.n1, h.n2, h.s1, h.s2, fun o ho => ?_, ?_, by simp; omega, fun p hp => ?_, h.cl, h.cs⟩
          · rcases h.ow o ho with h4 | ⟨h4, h5⟩
            · exact .inl h4
            · refine .inr ⟨h4, ?_⟩
              rw [crd_snoc hno]
              split
              · rfl
              · exact h5
          · rw [List.map_append, List.nodup_append]
            refine ⟨h.nd, by simp, fun a ha b hb e => ?_⟩
            simp only [List.map_cons, List.map_nil, List.mem_singleton] at hb
            subst hb e
            exact crd_none.1 hno ha
          · rcases List.mem_append.1 hp with h4 | h4
            · exact h.cr p h4
            · simp only [List.mem_singleton] at h4
              subst h4
              have hz : held m.own x = 0 := by
                unfold held
                rw [List.countP_eq_zero]
                intro o ho
                simp only [Bool.and_eq_true, decide_eq_true_eq, not_and]
                rintro rfl
                rcases h.ow o ho with h4 | ⟨h4, h5⟩
                · omega
                · rw [hno] at h5; cases h5
              exact ⟨by omega, by omega, by simp only; omega, by simp only; rw [hz]; omega⟩
  · exact h
theorem takE_zero {m : Md} {x : Int} (h : takE m x = 0) : ∃ c i, crd m.acc x = some c ∧ (held m.own x : Int) < c ∧ free1 m.own = some i ∧ takI m x = i := by
  have h0 := h
  unfold takE at h
  split at h
  · simp at h
  · rename_i c hc
    split at h
    · simp at h
    · rename_i h1
      split at h
      · simp at h
      · rename_i h2
        obtain ⟨i, hi⟩ := Option.ne_none_iff_exists'.1 h2
        exact ⟨c, i, hc, by omega, hi, by unfold takI; rw [if_pos h0, hi]; rfl⟩
theorem tak_ok {m : Md} (h : Ok m) (x : Int) : Ok (tak m x) := by
  unfold tak
  split
  · rename_i he
    obtain ⟨c, i, h1, h2, h3, h4⟩ := takE_zero he
    rw [h4]
    obtain ⟨hi, h5, h6⟩ := free1_some h3
    have hx := h.cr _ (crd_mem h1)
    refine ⟨by simpa using h.n1, by simpa using h.n2, h.s1, h.s2, fun o ho => ?_, h.nd, h.a1, fun p hp => ?_, by simpa using h.cl, fun y hy => ?_⟩
    · rcases List.mem_or_eq_of_mem_set ho with h7 | rfl
      · exact h.ow o h7
      · exact .inr ⟨hx.1, by rw [h1]; rfl⟩
    · have h7 := h.cr p hp
      refine ⟨h7.1, h7.2.1, by simpa using h7.2.2.1, ?_⟩
      have h8 := held_set hi x p.1
      by_cases hpx : x = p.1
      · have h9 := mem_crd h.nd (show (p.1, p.2) ∈ m.acc from hp)
        rw [← hpx, h1] at h9
        simp only [Option.some.injEq] at h9
        simp only
        rw [← hpx] at h8 ⊢
        rw [if_neg (by omega)] at h8
        split at h8 <;> omega
      · rw [if_neg (by omega), if_neg (by simp [hpx])] at h8
        simp only
        omega
    · rcases List.mem_or_eq_of_mem_set hy with h7 | rfl
      · exact h.cs y h7
      · simp
  · exact h
theorem hldE_zero {m : Md} {x b : Int} (h : hldE m x b = 0) : ∃ c, crd m.acc x = some c ∧ 0 ≤ b ∧ ∃ hb : b.toNat < m.own.length, m.own[b.toNat] = x := by
  unfold hldE at h
  split at h
  · simp at h
  · rename_i h1
    split at h
    · simp at h
    · rename_i h2
      obtain ⟨c, hc⟩ := Option.ne_none_iff_exists'.1 h1
      simp only [not_or, Int.not_lt, Int.not_le] at h2
      have hb : b.toNat < m.own.length := by omega
      have h3 : m.own[b.toNat]? = some x := by
        rcases Decidable.em (m.own[b.toNat]? = some x) with h4 | h4
        · exact h4
        · exact absurd h4 h2.2.2
      rw [List.getElem?_eq_getElem hb] at h3
      exact ⟨c, hc, h2.1, hb, by simpa using h3⟩
theorem giv_ok {m : Md} (h : Ok m) (x b : Int) : Ok (giv m x b) := by
  unfold giv
  split
  · rename_i he
    obtain ⟨c, h1, h2, hb, h3⟩ := hldE_zero he
    refine ⟨by simpa using h.n1, by simpa using h.n2, h.s1, h.s2, fun o ho => ?_, h.nd, h.a1, fun p hp => ?_, by simpa using h.cl, h.cs⟩
    · rcases List.mem_or_eq_of_mem_set ho with h7 | rfl
      · exact h.ow o h7
      · exact .inl rfl
    · have h7 := h.cr p hp
      refine ⟨h7.1, h7.2.1, by simpa using h7.2.2.1, ?_⟩
      have h8 := held_set hb (-1) p.1
      rw [if_neg (c := -1 = p.1 ∧ 0 ≤ p.1) (by omega)] at h8
      simp only
      omega
  · exact h
theorem put_ok {m : Md} (h : Ok m) (x b at' : Int) (c : UInt8) : Ok (put m x b at' c) := by
  unfold put
  split
  · refine ⟨h.n1, h.n2, h.s1, h.s2, h.ow, h.nd, h.a1, h.cr, by simpa using h.cl, fun y hy => ?_⟩
    rcases List.mem_or_eq_of_mem_set hy with h7 | rfl
    · exact h.cs y h7
    · rename_i he
      unfold plcE at he
      split at he
      · rename_i h9; exact absurd he h9
      · rename_i h9
        have h9' : hldE m x b = 0 := by simpa using h9
        obtain ⟨_, _, _, hb, _⟩ := hldE_zero h9'
        rw [List.length_set, List.getD_eq_getElem?_getD, List.getElem?_eq_getElem (by rw [h.cl]; exact hb)]
        exact h.cs _ (List.getElem_mem _)
  · exact h
end Po
end Go.Proofs.YtpjimmdpcpcmoaaDoor
