import Derived.Test.YtoeeddfinmfnoaaDoorQBrkPure
import Derived.Test.YtoeeddfinmfnoaaDoorQTreeBnd
import Derived.Lib.IndexLaws
/- Plain law of chapter 08: what a text of a regular expression reads as. No program. -/
namespace Go.Proofs.YtoeeddfinmfnoaaDoor
namespace Kt
end Kt
namespace Sp
end Sp
namespace St
end St
namespace Bk
end Bk
open Go Go.RowKit Kt Sp St Bk
open Tr (Nd)
namespace Rx
/-- A place in a text, and the fault's number. -/
structure S where
  pos : Nat
  err : Nat
  deriving DecidableEq
open Classical in
/-- A set's four words. -/
noncomputable def wOf (f : Nat → Bool) : List Nat := if h : ∃ rs, IsSet rs f then Classical.choose h else [0, 0, 0, 0]
theorem wOf_of {rs : List Nat} {f : Nat → Bool} (h : IsSet rs f) : wOf f = rs := by
  have hx : ∃ rs, IsSet rs f := ⟨rs, h⟩
  unfold wOf
  rw [dif_pos hx]
  exact IsSet.unique (Classical.choose_spec hx) h
def more (t : List UInt8) (s : S) : Bool := decide (s.err = 0) && decide (s.pos < t.length)
def cur (t : List UInt8) (p : Nat) : UInt8 := t.getD p 0
def on (t : List UInt8) (s : S) (l : List UInt8) : Bool := more t s && l.contains (cur t s.pos)
def fail (s : S) (p e : Nat) : S := if s.err = 0 then ⟨p, e⟩ else s
def nx (s : S) : S := ⟨s.pos + 1, s.err⟩
def takeS (t : List UInt8) (s : S) (c : UInt8) : S := if on t s [c] then nx s else s
def figs : List UInt8 := [48, 49, 50, 51, 52, 53, 54, 55, 56, 57]
/-- A bound's figures: the place, the number, and whether there are too many. -/
def numL (t : List UInt8) (frm : Nat) : Nat → S → Nat → S × Nat × Bool
  | 0, s, n => (s, n, false)
  | k + 1, s, n => if on t s figs then (if s.pos - frm = 2 then (fail s frm 1, 0, true) else numL t frm k (nx s) (10 * n + ((cur t s.pos).toNat - 48))) else (s, n, false)
def number (t : List UInt8) (s : S) : Nat × S :=
  if (numL t s.pos 4 s 0).2.2 then (0, (numL t s.pos 4 s 0).1)
  else if 40 < (numL t s.pos 4 s 0).2.1 then ((numL t s.pos 4 s 0).2.1, fail (numL t s.pos 4 s 0).1 s.pos 1)
  else ((numL t s.pos 4 s 0).2.1, (numL t s.pos 4 s 0).1)
def bounded (t : List UInt8) (s : S) : Bool := on t s [123] && (decide (s.pos + 1 < t.length) && figs.contains (cur t (s.pos + 1)))
/-- The end of bounds. -/
def bEnd (t : List UInt8) (last least : Nat) (most : Int) (s : S) : S :=
  if s.err = 0 ∧ more t s = false then fail s t.length 2
  else if on t s [125] = false then fail s s.pos 4
  else if most ≠ -1 ∧ (most < least ∨ most < 1) then fail (nx s) last 1 else nx s
def bounds (t : List UInt8) (s : S) : Nat × Int × S :=
  let a := number t (nx s)
  if on t a.2 [44] then
    (if on t (nx a.2) figs then (a.1, ((number t (nx a.2)).1 : Int), bEnd t (nx a.2).pos a.1 ((number t (nx a.2)).1 : Int) (number t (nx a.2)).2)
     else (a.1, -1, bEnd t (nx s).pos a.1 (-1) (nx a.2)))
  else (a.1, (a.1 : Int), bEnd t (nx s).pos a.1 (a.1 : Int) a.2)
def zero : Nd := .mk 0 [0, 0, 0, 0] 0 0 [] none 0 []
noncomputable def bts (f : Nat → Bool) : Nd := .mk 1 (wOf f) 0 0 [] none 0 []
/-- Up to a brace's end. -/
def brace (t : List UInt8) (frm : Nat) : Int := Lib.indexByte (t.drop frm) 125
def name (t : List UInt8) (s : S) : Nd × S :=
  if brace t (s.pos + 1) < 0 then (zero, fail s t.length 2)
  else if Ac.nm ((t.drop (s.pos + 1)).take (brace t (s.pos + 1)).toNat) = false then (zero, fail s (s.pos + 1) 5)
  else (.mk 5 [0, 0, 0, 0] 0 0 ((t.drop (s.pos + 1)).take (brace t (s.pos + 1)).toNat) none 0 [], ⟨s.pos + 1 + (brace t (s.pos + 1)).toNat + 1, s.err⟩)
def never : List UInt8 := [42, 43, 63, 93, 125, 47]
/-- Behind a round bracket's expression. -/
def cls (t : List UInt8) (s : S) : S := if s.err = 0 ∧ on t s [41] = false then fail s t.length 2 else takeS t s 41
noncomputable def atm (ex : S → Nd × S) (t : List UInt8) (s : S) : Nd × S :=
  if on t s [40] then ((ex (nx s)).1, cls t (ex (nx s)).2)
  else if on t s [91] then (bts (brd t s.pos).1, ⟨(brd t s.pos).2.1, (brd t s.pos).2.2⟩)
  else if on t s [123] then name t s
  else if on t s [46] then (bts (fun q => !decide (q = 10)), nx s)
  else if on t s never then (zero, fail s s.pos 4)
  else (bts (fun q => decide (q = (rd t s.pos).1.toNat)), ⟨(rd t s.pos).2.1, (rd t s.pos).2.2⟩)
def rep (mn mx : Int) (n : Nd) : Nd := .mk 4 [0, 0, 0, 0] mn mx [] none 0 [n]
/-- The marks behind an atom. -/
def pcL (t : List UInt8) : Nat → S → Nd → Nd × S
  | 0, s, n => (n, s)
  | k + 1, s, n => if on t s [42] then pcL t k (nx s) (rep 0 (-1) n) else if on t s [43] then pcL t k (nx s) (rep 1 (-1) n) else if on t s [63] then pcL t k (nx s) (rep 0 1 n)
    else if bounded t s then pcL t k (bounds t s).2.2 (rep ((bounds t s).1 : Int) (bounds t s).2.1 n) else (n, s)
noncomputable def pce (ex : S → Nd × S) (t : List UInt8) (s : S) : Nd × S := pcL t (t.length + 1) (atm ex t s).2 (atm ex t s).1
/-- Of one the one, of others a node of their kind. -/
def joinN (k : Int) (l : List Nd) : Nd := if l.length = 1 then l.headD default else .mk k [0, 0, 0, 0] 0 0 [] none 0 l
noncomputable def brL (ex : S → Nd × S) (t : List UInt8) : Nat → S → List Nd → List Nd × S
  | 0, s, l => (l, s)
  | k + 1, s, l => if more t s && !on t s [124, 41] then brL ex t k (pce ex t s).2 (l ++ [(pce ex t s).1]) else (l, s)
noncomputable def brn (ex : S → Nd × S) (t : List UInt8) (s : S) : Nd × S := (joinN 2 (brL ex t (t.length + 1) s []).1, (brL ex t (t.length + 1) s []).2)
noncomputable def exL (ex : S → Nd × S) (t : List UInt8) : Nat → S → List Nd → List Nd × S
  | 0, s, l => (l, s)
  | k + 1, s, l => if on t s [124] then exL ex t k (brn ex t (nx s)).2 (l ++ [(brn ex t (nx s)).1]) else (l, s)
noncomputable def expr1 (ex : S → Nd × S) (t : List UInt8) (s : S) : Nd × S := (joinN 3 (exL ex t (t.length + 1) (brn ex t s).2 [(brn ex t s).1]).1, (exL ex t (t.length + 1) (brn ex t s).2 [(brn ex t s).1]).2)
noncomputable def expr (t : List UInt8) : Nat → S → Nd × S
  | 0, s => (zero, s)
  | k + 1, s => expr1 (expr t k) t s
noncomputable def fin (t : List UInt8) (n : Nd) (s : S) : S := if more t s then fail s s.pos 4 else if s.err ≠ 0 then s else if 24 < Tr.deep (Tr.walk n) then ⟨0, 7⟩ else if 600 < (Tr.walk n).length then ⟨0, 9⟩ else s
/-- The tree, the place behind or of the fault, the fault's number. -/
noncomputable def parse (t : List UInt8) : Nd × Nat × Nat :=
  let r := expr t (t.length + 1) ⟨0, 0⟩
  if (fin t r.1 r.2).err ≠ 0 then (zero, (fin t r.1 r.2).pos, (fin t r.1 r.2).err) else (r.1, t.length, 0)
/-- On, or a fault. -/
structure Adv (t : List UInt8) (s s' : S) : Prop where
  le : s'.pos ≤ t.length
  on : s'.err = 0 → s.err = 0 ∧ s.pos ≤ s'.pos
structure AdvS (t : List UInt8) (s s' : S) : Prop where
  le : s'.pos ≤ t.length
  on : s'.err = 0 → s.err = 0 ∧ s.pos < s'.pos
theorem Adv.refl {t : List UInt8} {s : S} (h : s.pos ≤ t.length) : Adv t s s := ⟨h, fun h => ⟨h, Nat.le_refl _⟩⟩
theorem Adv.trans {t : List UInt8} {a b c : S} (h : Adv t a b) (k : Adv t b c) : Adv t a c := ⟨k.le, fun hc => ⟨(h.on (k.on hc).1).1, Nat.le_trans (h.on (k.on hc).1).2 (k.on hc).2⟩⟩
theorem AdvS.adv {t : List UInt8} {a b : S} (h : AdvS t a b) : Adv t a b := ⟨h.le, fun hc => ⟨(h.on hc).1, Nat.le_of_lt (h.on hc).2⟩⟩
theorem AdvS.trans {t : List UInt8} {a b c : S} (h : AdvS t a b) (k : Adv t b c) : AdvS t a c := ⟨k.le, fun hc => ⟨(h.on (k.on hc).1).1, Nat.lt_of_lt_of_le (h.on (k.on hc).1).2 (k.on hc).2⟩⟩
theorem Adv.transS {t : List UInt8} {a b c : S} (h : Adv t a b) (k : AdvS t b c) : AdvS t a c := ⟨k.le, fun hc => ⟨(h.on (k.on hc).1).1, Nat.lt_of_le_of_lt (h.on (k.on hc).1).2 (k.on hc).2⟩⟩
theorem fail_err {s : S} {p e : Nat} (he : e ≠ 0) : (fail s p e).err ≠ 0 := by
  unfold fail
  split
  · exact he
  · assumption
theorem fail_adv {t : List UInt8} {s0 s : S} {p e : Nat} (he : e ≠ 0) (hp : p ≤ t.length) (hs : s.pos ≤ t.length) : AdvS t s0 (fail s p e) := by
  refine ⟨?_, fun h => absurd h (fail_err he)⟩
  unfold fail
  split
  · exact hp
  · exact hs
theorem more_lt {t : List UInt8} {s : S} (h : more t s = true) : s.err = 0 ∧ s.pos < t.length := by
  simpa [more] using h
theorem on_lt {t : List UInt8} {s : S} {l : List UInt8} (h : on t s l = true) : s.err = 0 ∧ s.pos < t.length := by
  unfold on at h
  rw [Bool.and_eq_true] at h
  exact more_lt h.1
theorem nx_adv {t : List UInt8} {s : S} (h : s.err = 0 ∧ s.pos < t.length) : AdvS t s (nx s) := ⟨h.2, fun _ => ⟨h.1, Nat.lt_succ_self _⟩⟩
theorem takeS_adv {t : List UInt8} {s : S} {c : UInt8} (h : s.pos ≤ t.length) : Adv t s (takeS t s c) := by
  unfold takeS
  split
  · next h2 => exact (nx_adv (on_lt h2)).adv
  · exact Adv.refl h
theorem numL_adv (t : List UInt8) (frm : Nat) (hf : frm ≤ t.length) : ∀ (k : Nat) (s : S) (n : Nat), s.pos ≤ t.length → Adv t s (numL t frm k s n).1
  | 0, s, n, h => Adv.refl h
  | k + 1, s, n, h => by
    unfold numL
    split
    · next h2 =>
      split
      · exact (fail_adv (by decide) hf h).adv
      · exact (nx_adv (on_lt h2)).adv.trans (numL_adv t frm hf k _ _ (on_lt h2).2)
    · exact Adv.refl h
theorem number_adv {t : List UInt8} {s : S} (h : s.pos ≤ t.length) : Adv t s (number t s).2 := by
  have h1 := numL_adv t s.pos h 4 s 0 h
  unfold number
  split
  · exact h1
  · split
    · exact (h1.transS (fail_adv (by decide) h h1.le)).adv
    · exact h1
theorem bEnd_adv {t : List UInt8} {last least : Nat} {most : Int} {s : S} (hl : last ≤ t.length) (h : s.pos ≤ t.length) : AdvS t s (bEnd t last least most s) := by
  unfold bEnd
  split
  · exact fail_adv (by decide) (Nat.le_refl _) h
  · split
    · exact fail_adv (by decide) h h
    · next h2 =>
      have h3 := on_lt (Bool.of_not_eq_false h2)
      split
      · exact fail_adv (by decide) hl (nx_adv h3).le
      · exact nx_adv h3
theorem bounds_adv {t : List UInt8} {s : S} (h : s.err = 0 ∧ s.pos < t.length) : AdvS t s (bounds t s).2.2 := by
  have h0 := nx_adv h
  have h1 := number_adv h0.le
  have hl : (nx s).pos ≤ t.length := h0.le
  unfold bounds
  simp only
  split
  · next h2 =>
    have h3 := (nx_adv (on_lt h2)).adv
    split
    · exact h0.trans (h1.trans (h3.trans ((number_adv h3.le).trans (bEnd_adv h3.le (number_adv h3.le).le).adv)))
    · exact h0.trans (h1.trans (h3.trans (bEnd_adv hl h3.le).adv))
  · exact h0.trans (h1.trans (bEnd_adv hl h1.le).adv)
theorem cls_adv {t : List UInt8} {s : S} (h : s.pos ≤ t.length) : Adv t s (cls t s) := by
  unfold cls
  split
  · exact (fail_adv (by decide) (Nat.le_refl _) h).adv
  · exact takeS_adv h
theorem lp_on (s : List UInt8) : ∀ (k : Nat) (f : Nat → Bool) (i : Nat) (first : Bool), i ≤ s.length → (lp s k f i first).2.2 = 0 → i ≤ (lp s k f i first).2.1
  | 0, _, _, _, _, _ => Nat.le_refl _
  | k + 1, f, i, first, h, he => by
    unfold lp at he ⊢
    split
    · exact Nat.le_succ _
    · next h1 =>
      rw [if_neg h1] at he
      split
      · next h2 =>
        rw [if_pos h2] at he
        exact absurd he h2
      · next h2 =>
        rw [if_neg h2] at he
        have h3 := itm_go s i h
        have h4 := h3.2.2.2.1 (Classical.not_not.1 h2)
        exact Nat.le_trans (Nat.le_of_lt h4) (lp_on s k _ _ _ h3.2.2.1 he)
theorem brd_on {s : List UInt8} {i : Nat} (he : (brd s i).2.2 = 0) : i < (brd s i).2.1 := by
  unfold brd at he ⊢
  split
  · next h => rw [if_pos h] at he; simp at he
  · next h =>
    rw [if_neg h] at he
    split
    · next h1 => rw [if_pos h1] at he; simp at he
    · next h1 =>
      rw [if_neg h1] at he
      split
      · next h2 =>
        rw [if_pos h2] at he
        have hl : i + 2 ≤ s.length := by
          have := List.getElem?_eq_some_iff.1 h2
          obtain ⟨h3, _⟩ := this
          omega
        split
        · next h3 => rw [if_pos h3] at he; exact absurd he h3
        · next h3 =>
          have := lp_on s (s.length + 1) none' (i + 2) true hl (Classical.not_not.1 h3)
          simp only
          omega
      · next h2 =>
        rw [if_neg h2] at he
        have := lp_on s (s.length + 1) none' (i + 1) true (by omega) he
        omega
theorem brace_at {t : List UInt8} {frm : Nat} (h : ¬ brace t frm < 0) : t[frm + (brace t frm).toNat]? = some 125 := by
  have h1 := (Lib.indexByte_some (l := t.drop frm) (c := 125) (o := (brace t frm).toNat) (by
    have : Lib.indexByte (t.drop frm) 125 = brace t frm := rfl
    rw [this]
    omega)).1
  rw [List.getElem?_drop] at h1
  exact h1
theorem brace_lt {t : List UInt8} {frm : Nat} (h : ¬ brace t frm < 0) : frm + (brace t frm).toNat < t.length := by
  obtain ⟨h1, _⟩ := List.getElem?_eq_some_iff.1 (brace_at h)
  exact h1
theorem name_adv {t : List UInt8} {s : S} (h : s.err = 0 ∧ s.pos < t.length) : AdvS t s (name t s).2 := by
  unfold name
  split
  · exact fail_adv (by decide) (Nat.le_refl _) (by omega)
  · next h1 =>
    split
    · exact fail_adv (by decide) (by omega) (by omega)
    · refine ⟨?_, fun _ => ⟨h.1, ?_⟩⟩
      · have h2 := brace_lt h1
        simp only
        omega
      · simp only
        omega
theorem atm_adv {ex : S → Nd × S} {t : List UInt8} {s : S} (hex : ∀ s, s.pos ≤ t.length → Adv t s (ex s).2) (h : s.err = 0 ∧ s.pos < t.length) : AdvS t s (atm ex t s).2 := by
  have h0 := nx_adv h
  unfold atm
  split
  · exact h0.trans ((hex _ h0.le).trans (cls_adv (hex _ h0.le).le))
  · split
    · exact ⟨(brd_go t s.pos (by omega)).1, fun he => ⟨h.1, brd_on he⟩⟩
    · split
      · exact name_adv h
      · split
        · exact h0
        · split
          · exact fail_adv (by decide) (by omega) (by omega)
          · have hr := rd_go t s.pos (by omega)
            exact ⟨hr.2.2.1, fun he => ⟨h.1, hr.2.2.2.1 he⟩⟩
theorem pcL_adv {t : List UInt8} : ∀ (k : Nat) (s : S) (n : Nd), s.pos ≤ t.length → Adv t s (pcL t k s n).2
  | 0, s, n, h => Adv.refl h
  | k + 1, s, n, h => by
    unfold pcL
    split
    · next h1 => exact (nx_adv (on_lt h1)).adv.trans (pcL_adv k _ _ (nx_adv (on_lt h1)).le)
    · split
      · next h1 => exact (nx_adv (on_lt h1)).adv.trans (pcL_adv k _ _ (nx_adv (on_lt h1)).le)
      · split
        · next h1 => exact (nx_adv (on_lt h1)).adv.trans (pcL_adv k _ _ (nx_adv (on_lt h1)).le)
        · split
          · next h1 =>
            have h2 : s.err = 0 ∧ s.pos < t.length := by
              unfold bounded at h1
              rw [Bool.and_eq_true] at h1
              exact on_lt h1.1
            exact (bounds_adv h2).adv.trans (pcL_adv k _ _ (bounds_adv h2).le)
          · exact Adv.refl h
theorem pce_adv {ex : S → Nd × S} {t : List UInt8} {s : S} (hex : ∀ s, s.pos ≤ t.length → Adv t s (ex s).2) (h : s.err = 0 ∧ s.pos < t.length) : AdvS t s (pce ex t s).2 :=
  (atm_adv hex h).trans (pcL_adv _ _ _ (atm_adv hex h).le)
theorem brL_adv {ex : S → Nd × S} {t : List UInt8} (hex : ∀ s, s.pos ≤ t.length → Adv t s (ex s).2) : ∀ (k : Nat) (s : S) (l : List Nd), s.pos ≤ t.length → Adv t s (brL ex t k s l).2
  | 0, s, l, h => Adv.refl h
  | k + 1, s, l, h => by
    unfold brL
    split
    · next h1 =>
      rw [Bool.and_eq_true] at h1
      have h2 := pce_adv hex (more_lt h1.1)
      exact h2.adv.trans (brL_adv hex k _ _ h2.le)
    · exact Adv.refl h
theorem brn_adv {ex : S → Nd × S} {t : List UInt8} {s : S} (hex : ∀ s, s.pos ≤ t.length → Adv t s (ex s).2) (h : s.pos ≤ t.length) : Adv t s (brn ex t s).2 := brL_adv hex _ _ _ h
theorem exL_adv {ex : S → Nd × S} {t : List UInt8} (hex : ∀ s, s.pos ≤ t.length → Adv t s (ex s).2) : ∀ (k : Nat) (s : S) (l : List Nd), s.pos ≤ t.length → Adv t s (exL ex t k s l).2
  | 0, s, l, h => Adv.refl h
  | k + 1, s, l, h => by
    unfold exL
    split
    · next h1 =>
      have h2 := nx_adv (on_lt h1)
      have h3 := brn_adv hex h2.le
      exact h2.adv.trans (h3.trans (exL_adv hex k _ _ h3.le))
    · exact Adv.refl h
theorem expr1_adv {ex : S → Nd × S} {t : List UInt8} {s : S} (hex : ∀ s, s.pos ≤ t.length → Adv t s (ex s).2) (h : s.pos ≤ t.length) : Adv t s (expr1 ex t s).2 :=
  (brn_adv hex h).trans (exL_adv hex _ _ _ (brn_adv hex h).le)
theorem expr_adv {t : List UInt8} : ∀ (k : Nat) (s : S), s.pos ≤ t.length → Adv t s (expr t k s).2
  | 0, _, h => Adv.refl h
  | k + 1, _, h => expr1_adv (expr_adv k) h
end Rx
end Go.Proofs.YtoeeddfinmfnoaaDoor
