/- Plain law of chapter 12: names, words, and what they say. No program. -/
import Derived.Test.YtmfcabidmacdcaaDoorLib
namespace Go.Proofs.YtmfcabidmacdcaaDoor
open Go Go.RowKit Kt
namespace Ac
def isLet (c : UInt8) : Bool := decide (97 ≤ c.toNat) && decide (c.toNat ≤ 122)
def isDig (c : UInt8) : Bool := decide (48 ≤ c.toNat) && decide (c.toNat ≤ 57)
/-- A name's byte at a place. -/
def nmAt (i : Nat) (c : UInt8) : Bool := isLet c || (decide (0 < i) && isDig c)
def nmAll : Nat → List UInt8 → Bool
  | _, [] => true
  | i, c :: l => nmAt i c && nmAll (i + 1) l
/-- A right name. -/
def nm (l : List UInt8) : Bool := nmAll 0 l && (decide (l ≠ []) && decide (l.length ≤ 12))
/-- The word at the beginning. -/
def wd : List UInt8 → List UInt8
  | [] => []
  | c :: l => if c = 32 then [] else c :: wd l
/-- All words. -/
def words : List UInt8 → List (List UInt8)
  | [] => [[]]
  | c :: l => if c = 32 then [] :: words l else (c :: (words l).headD []) :: (words l).tail
def join : List (List UInt8) → List UInt8
  | [] => []
  | [w] => w
  | w :: v :: r => w ++ 32 :: join (v :: r)
def emitW : List UInt8 := [101, 109, 105, 116]
def skipW : List UInt8 := [115, 107, 105, 112]
def beginW : List UInt8 := [98, 101, 103, 105, 110]
/-- How far the reader goes for a word, if others stand behind it. -/
def stp (w : List UInt8) (r : List (List UInt8)) : Nat := if r = [] then w.length else w.length + 1
/-- What stands behind the first part: the condition. -/
def act2 (e : List UInt8) (at' : Nat) : List (List UInt8) → (List UInt8 × List UInt8) × Nat × Nat
  | [] => ((e, []), at', 0)
  | w :: r => if w ≠ beginW then (([], []), at', 4) else match r with
    | [] => (([], []), at' + 5, 2)
    | n :: r2 => if nm n = false then (([], []), at' + 6, 5) else if r2 = [] then ((e, n), at' + 6 + n.length, 0) else (([], []), at' + 6 + n.length + 1, 3)
/-- An action: its two names, the place behind (or of the fault), the error's number. -/
def act : List (List UInt8) → (List UInt8 × List UInt8) × Nat × Nat
  | [] => (([], []), 0, 4)
  | w :: r => if w = emitW then (match r with
      | [] => (([], []), 4, 2)
      | n :: r2 => if nm n = false then (([], []), 5, 5) else act2 n (5 + stp n r2) r2)
    else if w = skipW then act2 [] (stp w r) r
    else (([], []), 0, 4)
/-- The words of an action. -/
def txt (e b : List UInt8) : List (List UInt8) := (if e = [] then [skipW] else [emitW, e]) ++ (if b = [] then [] else [beginW, b])
def may (l : List UInt8) : Bool := decide (l = []) || nm l

theorem words_ne (s : List UInt8) : words s ≠ [] := by
  cases s with
  | nil => simp [words]
  | cons c l => unfold words; split <;> simp
theorem join_cons (c : UInt8) (w : List UInt8) (r : List (List UInt8)) : join ((c :: w) :: r) = c :: join (w :: r) := by
  cases r <;> rfl
theorem join_words (s : List UInt8) : join (words s) = s := by
  induction s with
  | nil => rfl
  | cons c l ih =>
    unfold words
    split
    · next h =>
      subst h
      obtain ⟨v, r, hv⟩ : ∃ v r, words l = v :: r := by
        cases hw : words l with
        | nil => exact absurd hw (words_ne l)
        | cons v r => exact ⟨v, r, rfl⟩
      rw [hv] at ih ⊢
      simp [join, ih]
    · obtain ⟨v, r, hv⟩ : ∃ v r, words l = v :: r := by
        cases hw : words l with
        | nil => exact absurd hw (words_ne l)
        | cons v r => exact ⟨v, r, rfl⟩
      rw [hv] at ih ⊢
      simp only [List.headD_cons, List.tail_cons]
      rw [join_cons, ih]
theorem words_noblank (s : List UInt8) : ∀ w ∈ words s, (32 : UInt8) ∉ w := by
  induction s with
  | nil => simp [words]
  | cons c l ih =>
    unfold words
    split
    · intro w hw
      rcases List.mem_cons.1 hw with rfl | hw
      · simp
      · exact ih w hw
    · next h =>
      obtain ⟨v, r, hv⟩ : ∃ v r, words l = v :: r := by
        cases hw : words l with
        | nil => exact absurd hw (words_ne l)
        | cons v r => exact ⟨v, r, rfl⟩
      rw [hv] at ih ⊢
      intro w hw
      rcases List.mem_cons.1 hw with rfl | hw
      · simp only [List.headD_cons, List.mem_cons, not_or]
        exact ⟨fun e => h e.symm, ih v (by simp)⟩
      · exact ih w (by simp [show w ∈ r from hw])
theorem words_word {w : List UInt8} (h : (32 : UInt8) ∉ w) : words w = [w] := by
  induction w with
  | nil => rfl
  | cons c l ih =>
    simp only [List.mem_cons, not_or] at h
    unfold words
    rw [if_neg (fun e => h.1 e.symm), ih h.2]
    rfl
theorem words_cat {w : List UInt8} (h : (32 : UInt8) ∉ w) (l : List UInt8) : words (w ++ 32 :: l) = w :: words l := by
  induction w with
  | nil => simp [words]
  | cons c t ih =>
    simp only [List.mem_cons, not_or] at h
    rw [List.cons_append, show words (c :: (t ++ 32 :: l)) = (c :: (words (t ++ 32 :: l)).headD []) :: (words (t ++ 32 :: l)).tail by rw [words, if_neg (fun e => h.1 e.symm)], ih h.2]
    rfl
theorem words_join : ∀ {ws : List (List UInt8)}, ws ≠ [] → (∀ w ∈ ws, (32 : UInt8) ∉ w) → words (join ws) = ws
  | [], h, _ => absurd rfl h
  | [w], _, h => words_word (h w (by simp))
  | w :: v :: r, _, h => by
    show words (w ++ 32 :: join (v :: r)) = _
    rw [words_cat (h w (by simp)), words_join (by simp) (fun x hx => h x (by simp [List.mem_cons.1 hx]))]
theorem words_append {a : List UInt8} {ws : List (List UInt8)} (ha : words a = ws) (b : List UInt8) : words (a ++ 32 :: b) = ws ++ words b := by
  subst ha
  induction a with
  | nil => simp [words]
  | cons c t ih =>
    rw [List.cons_append]
    by_cases hc : c = 32
    · subst hc
      simp [words, ih]
    · have h1 : words (c :: (t ++ 32 :: b)) = (c :: (words (t ++ 32 :: b)).headD []) :: (words (t ++ 32 :: b)).tail := by rw [words, if_neg hc]
      have h2 : words (c :: t) = (c :: (words t).headD []) :: (words t).tail := by rw [words, if_neg hc]
      rw [h1, h2, ih]
      cases hw : words t with
      | nil => exact absurd hw (words_ne t)
      | cons v r => simp
theorem wd_words (s : List UInt8) : wd s = (words s).headD [] := by
  induction s with
  | nil => rfl
  | cons c l ih =>
    unfold wd words
    split
    · rfl
    · rw [ih]; rfl
theorem wd_join {w : List UInt8} (h : (32 : UInt8) ∉ w) (l : List UInt8) : wd (w ++ 32 :: l) = w := by rw [wd_words, words_cat h]; rfl
theorem wd_one {w : List UInt8} (h : (32 : UInt8) ∉ w) : wd w = w := by rw [wd_words, words_word h]; rfl
theorem nmAll_noblank : ∀ (l : List UInt8) (i : Nat), nmAll i l = true → (32 : UInt8) ∉ l
  | [], _, _ => by simp
  | c :: l, i, h => by
    simp only [nmAll, Bool.and_eq_true] at h
    simp only [List.mem_cons, not_or]
    refine ⟨?_, nmAll_noblank l _ h.2⟩
    rintro rfl
    have := h.1
    simp [nmAt, isLet, isDig] at this
theorem nm_noblank {l : List UInt8} (h : nm l = true) : (32 : UInt8) ∉ l := by
  simp only [nm, Bool.and_eq_true] at h
  exact nmAll_noblank l 0 h.1
theorem nm_ne {l : List UInt8} (h : nm l = true) : l ≠ [] := by
  simp only [nm, Bool.and_eq_true, decide_eq_true_eq] at h
  exact h.2.1
theorem nm_len {l : List UInt8} (h : nm l = true) : l.length ≤ 12 := by
  simp only [nm, Bool.and_eq_true, decide_eq_true_eq] at h
  exact h.2.2
theorem nm_nil : nm [] = false := rfl
theorem may_cases {l : List UInt8} (h : may l = true) : l = [] ∨ nm l = true := by
  simpa [may] using h
theorem txt_ne (e b : List UInt8) : txt e b ≠ [] := by
  unfold txt
  split <;> simp
theorem txt_noblank {e b : List UInt8} (he : may e = true) (hb : may b = true) : ∀ w ∈ txt e b, (32 : UInt8) ∉ w := by
  intro w hw
  rcases may_cases he with rfl | he <;> rcases may_cases hb with rfl | hb
  · simp [txt] at hw; subst hw; decide
  · simp [txt, nm_ne hb] at hw; rcases hw with rfl | rfl | rfl
    · decide
    · decide
    · exact nm_noblank hb
  · simp [txt, nm_ne he] at hw; rcases hw with rfl | rfl
    · decide
    · exact nm_noblank he
  · simp [txt, nm_ne he, nm_ne hb] at hw; rcases hw with rfl | rfl | rfl | rfl
    · decide
    · exact nm_noblank he
    · decide
    · exact nm_noblank hb
/-- What is written is read back. -/
theorem act_txt {e b : List UInt8} (he : may e = true) (hb : may b = true) : act (txt e b) = ((e, b), (join (txt e b)).length, 0) := by
  rcases may_cases he with rfl | he <;> rcases may_cases hb with rfl | hb
  · decide
  · have h0 := nm_ne hb
    simp [txt, h0, act, act2, hb, emitW, skipW, beginW, join, stp]
    omega
  · have h0 := nm_ne he
    simp [txt, h0, act, act2, he, emitW, skipW, beginW, join, stp]
    omega
  · have h0 := nm_ne he
    have h1 := nm_ne hb
    simp [txt, h0, h1, act, act2, he, hb, emitW, skipW, beginW, join, stp]
    omega
/-- What is read without a fault is what is written. -/
theorem txt_act {ws : List (List UInt8)} (h : (act ws).2.2 = 0) : txt (act ws).1.1 (act ws).1.2 = ws ∧ may (act ws).1.1 = true ∧ may (act ws).1.2 = true := by
  have h2 : ∀ (e : List UInt8) (a : Nat) (r : List (List UInt8)), (act2 e a r).2.2 = 0 → (act2 e a r).1.1 = e ∧ may (act2 e a r).1.2 = true ∧ (if (act2 e a r).1.2 = [] then [] else [beginW, (act2 e a r).1.2]) = r := by
    intro e a r h
    match r, h with
    | [], _ => simp [act2, may]
    | w :: r, h =>
      by_cases hw : w = beginW
      · subst hw
        match r, h with
        | [], h => simp [act2] at h
        | n :: r2, h =>
          by_cases hn : nm n = false
          · simp [act2, hn] at h
          · have hn' : nm n = true := by simpa using hn
            have := nm_ne hn'
            by_cases h3 : r2 = []
            · subst h3
              simp [act2, hn', may, this]
            · simp [act2, hn', h3] at h
      · simp [act2, hw] at h
  match ws, h with
  | [], h => simp [act] at h
  | w :: r, h =>
    by_cases hw : w = emitW
    · subst hw
      match r, h with
      | [], h => simp [act] at h
      | n :: r2, h =>
        by_cases hn : nm n = false
        · simp [act, hn] at h
        · have hn' : nm n = true := by simpa using hn
          have h0 := nm_ne hn'
          have e : act (emitW :: n :: r2) = act2 n (5 + stp n r2) r2 := by simp [act, hn']
          rw [e] at h ⊢
          obtain ⟨h1, h3, h4⟩ := h2 _ _ _ h
          refine ⟨?_, by rw [h1]; simp [may, hn'], h3⟩
          unfold txt
          rw [h4, h1, if_neg h0]
          rfl
    · by_cases hs : w = skipW
      · subst hs
        have e : act (skipW :: r) = act2 [] (stp skipW r) r := by simp [act, hw]
        rw [e] at h ⊢
        obtain ⟨h1, h3, h4⟩ := h2 _ _ _ h
        refine ⟨?_, by rw [h1]; rfl, h3⟩
        unfold txt
        rw [h4, h1, if_pos rfl]
        rfl
      · simp [act, hw, hs] at h
theorem act_fault {ws : List (List UInt8)} (h : (act ws).2.2 ≠ 0) : (act ws).1 = ([], []) := by
  have h2 : ∀ (e : List UInt8) (a : Nat) (r : List (List UInt8)), (act2 e a r).2.2 ≠ 0 → (act2 e a r).1 = ([], []) := by
    intro e a r h
    match r, h with
    | [], h => simp [act2] at h
    | w :: r, h =>
      by_cases hw : w = beginW
      · subst hw
        match r, h with
        | [], h => simp [act2]
        | n :: r2, h =>
          by_cases hn : nm n = false
          · simp [act2, hn]
          · by_cases h3 : r2 = []
            · simp [act2, hn, h3] at h
            · simp [act2, hn, h3]
      · simp [act2, hw]
  match ws, h with
  | [], h => simp [act]
  | w :: r, h =>
    by_cases hw : w = emitW
    · subst hw
      match r, h with
      | [], h => simp [act]
      | n :: r2, h =>
        by_cases hn : nm n = false
        · simp [act, hn]
        · have e : act (emitW :: n :: r2) = act2 n (5 + stp n r2) r2 := by simp [act, hn]
          rw [e] at h ⊢
          exact h2 _ _ _ h
    · by_cases hs : w = skipW
      · subst hs
        have e : act (skipW :: r) = act2 [] (stp skipW r) r := by simp [act, hw]
        rw [e] at h ⊢
        exact h2 _ _ _ h
      · simp [act, hw, hs]
/-- The error's number is one of these. -/
theorem act_err (ws : List (List UInt8)) : (act ws).2.2 = 0 ∨ (act ws).2.2 = 2 ∨ (act ws).2.2 = 3 ∨ (act ws).2.2 = 4 ∨ (act ws).2.2 = 5 := by
  have h2 : ∀ (e : List UInt8) (a : Nat) (r : List (List UInt8)), (act2 e a r).2.2 = 0 ∨ (act2 e a r).2.2 = 2 ∨ (act2 e a r).2.2 = 3 ∨ (act2 e a r).2.2 = 4 ∨ (act2 e a r).2.2 = 5 := by
    intro e a r
    match r with
    | [] => simp [act2]
    | w :: r =>
      by_cases hw : w = beginW
      · subst hw
        match r with
        | [] => simp [act2]
        | n :: r2 =>
          by_cases hn : nm n = false
          · simp [act2, hn]
          · by_cases h3 : r2 = []
            · simp [act2, hn, h3]
            · simp [act2, hn, h3]
      · simp [act2, hw]
  match ws with
  | [] => simp [act]
  | w :: r =>
    by_cases hw : w = emitW
    · subst hw
      match r with
      | [] => simp [act]
      | n :: r2 =>
        by_cases hn : nm n = false
        · simp [act, hn]
        · have e : act (emitW :: n :: r2) = act2 n (5 + stp n r2) r2 := by simp [act, hn]
          rw [e]
          exact h2 _ _ _
    · by_cases hs : w = skipW
      · subst hs
        have e : act (skipW :: r) = act2 [] (stp skipW r) r := by simp [act, hw]
        rw [e]
        exact h2 _ _ _
      · simp [act, hw, hs]
/-- One word too many, or too few. -/
theorem act_more {e b : List UInt8} (he : may e = true) (hb : may b = true) : (act (txt e b ++ [[]])).2.2 ≠ 0 ∧ (act ([] :: txt e b)).2.2 ≠ 0 ∧ (act (txt e b ++ [beginW])).2.2 ≠ 0 := by
  rcases may_cases he with rfl | he <;> rcases may_cases hb with rfl | hb
  · decide
  · have h0 := nm_ne hb
    simp [txt, h0, act, act2, hb, emitW, skipW, beginW, stp]
  · have h0 := nm_ne he
    simp [txt, h0, act, act2, he, emitW, skipW, beginW, stp]
  · have h0 := nm_ne he
    have h1 := nm_ne hb
    simp [txt, h0, h1, act, act2, he, hb, emitW, skipW, beginW, stp]
theorem act_begin {e b : List UInt8} (he : may e = true) (hb : nm b = true) (ws : List (List UInt8)) : (act (txt e b ++ beginW :: ws)).2.2 ≠ 0 := by
  have h1 := nm_ne hb
  rcases may_cases he with rfl | he
  · simp [txt, h1, act, act2, hb, emitW, skipW, beginW, stp]
  · have h0 := nm_ne he
    simp [txt, h0, h1, act, act2, he, hb, emitW, skipW, beginW, stp]
theorem act_cond {e : List UInt8} (he : may e = true) (ws : List (List UInt8)) (hw : ws ≠ []) : ((act (txt e [] ++ beginW :: ws)).2.2 = 0 ↔ ∃ n, ws = [n] ∧ nm n = true) ∧ ((act (txt e [] ++ beginW :: ws)).2.2 = 0 → ∀ n, ws = [n] → (act (txt e [] ++ beginW :: ws)).1 = (e, n)) := by
  match ws, hw with
  | n :: r, _ =>
    rcases may_cases he with rfl | he
    · by_cases hn : nm n = false
      · simp [txt, act, act2, hn, emitW, skipW, beginW, stp]
      · have hn' : nm n = true := by simpa using hn
        by_cases hr : r = []
        · subst hr
          simp [txt, act, act2, hn', emitW, skipW, beginW, stp]
        · simp [txt, act, act2, hn', hr, emitW, skipW, beginW, stp]
    · have h0 := nm_ne he
      by_cases hn : nm n = false
      · simp [txt, h0, act, act2, he, hn, emitW, skipW, beginW, stp]
      · have hn' : nm n = true := by simpa using hn
        by_cases hr : r = []
        · subst hr
          simp [txt, h0, act, act2, he, hn', emitW, skipW, beginW, stp]
        · simp [txt, h0, act, act2, he, hn', hr, emitW, skipW, beginW, stp]
end Ac
end Go.Proofs.YtmfcabidmacdcaaDoor
