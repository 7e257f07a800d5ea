/- The law PoolPlays: each call as a step of one state (PlX). Conditions: the sentinels and the table of TrailingZeros64 read as laid. -/
import Derived.Test.YtpjimmdpcpcmoaaDoorQPoolRef9
namespace Go.Proofs.YtpjimmdpcpcmoaaDoor
open Go Go.RowKit Kt
namespace Po
variable {w w' W W' : World} {p z q : Nat} {o : Obj} {m m' mr mr' : Md} {L L' M M' : List Nat}
/-- The pool, its model, and a block of the law's own that stays. -/
def PlX (w W : World) (p z q : Nat) (o : Obj) (m mr : Md) : Prop := ∃ L M, PlS w W p z L M m mr ∧ W.heap[q]? = some o ∧ q ∉ L ∧ q ∉ M
theorem PlX.below (h : PlX w W p z q o m mr) (hb : Below W.heap.size W W') : PlX w W' p z q o m mr := by
  obtain ⟨L, M, h1, h2, h3, h4⟩ := h
  exact ⟨L, M, h1.below hb, (hb.block q (block_lt h2)).trans h2, h3, h4⟩
theorem PlX.B (h : PlX w W p z q o m mr) : Below w.heap.size w W := by obtain ⟨L, M, h1, _⟩ := h; exact h1.B
theorem PlX.blk (h : PlX w W p z q o m mr) : W.heap[q]? = some o := by obtain ⟨L, M, _, h2, _⟩ := h; exact h2
theorem PlX.ok (h : PlX w W p z q o m mr) : Ok m := by obtain ⟨L, M, h1, _⟩ := h; exact h1.i.ok
/-- A step of the pool. -/
theorem PlX.stepp {f : FuncId} {vs : Array Value} {v : Value} (h : PlX w W p z q o m mr) (hc : ∀ L, PI W p L m → Calls Tryd.prog f vs W fun e w' => ∃ L', e = .returned v ∧ PI w' p L' m' ∧ Mod L W w' ∧ Fr L' L W.heap.size) :
    Calls Tryd.prog f vs W fun e w' => e = .returned v ∧ PlX w w' p z q o m' mr := by
  obtain ⟨L, M, h1, h2, h3, h4⟩ := h
  refine (hc L h1.i).mono ?_
  rintro e w' ⟨L', rfl, hP, hM, hF⟩
  refine ⟨rfl, L', M, h1.actp hP hM hF, (hM.block q (block_lt h2) h3).trans h2, fun hm => ?_, h4⟩
  rcases hF q hm with h5 | h5
  · exact h3 h5
  · have := block_lt h2; omega
/-- A step of the model. -/
theorem PlX.stepr {f : FuncId} {vs : Array Value} {v : Value} (h : PlX w W p z q o m mr) (hc : ∀ M, RI W z M mr → Calls Tryd.prog f vs W fun e w' => ∃ M', e = .returned v ∧ RI w' z M' mr' ∧ Mod M W w' ∧ Fr M' M W.heap.size) :
    Calls Tryd.prog f vs W fun e w' => e = .returned v ∧ PlX w w' p z q o m mr' := by
  obtain ⟨L, M, h1, h2, h3, h4⟩ := h
  refine (hc M h1.r).mono ?_
  rintro e w' ⟨M', rfl, hP, hM, hF⟩
  refine ⟨rfl, L, M', h1.actr hP hM hF, (hM.block q (block_lt h2) h4).trans h2, h3, fun hm => ?_⟩
  rcases hF q hm with h5 | h5
  · exact h4 h5
  · have := block_lt h2; omega
theorem PlX.num (E : Nat → Addr) (hs : Sent 169 w E Er.egs) (h : PlX w W p z q o m mr) {n : Int} (h0 : 0 ≤ n) (h1 : n ≤ 18) :
    Calls Tryd.prog 22 #[ee E n] W fun e w' => e = .returned (.int .i64 n) ∧ PlX w w' p z q o m mr :=
  (num_ee E n h0 h1 W (hs.keep h.B)).mono fun _ _ ⟨h2, h3⟩ => ⟨h2, h.below h3⟩
theorem opnE_r (m : Md) (x c : Int) : 0 ≤ opnE m x c ∧ opnE m x c ≤ 18 := by unfold opnE; repeat' split
                                                                             all_goals decide
theorem clsE_r (m : Md) (x : Int) : 0 ≤ clsE m x ∧ clsE m x ≤ 18 := by unfold clsE; repeat' split
                                                                       all_goals decide
theorem takE_r (m : Md) (x : Int) : 0 ≤ takE m x ∧ takE m x ≤ 18 := by unfold takE; repeat' split
                                                                       all_goals decide
theorem hldE_r (m : Md) (x b : Int) : 0 ≤ hldE m x b ∧ hldE m x b ≤ 18 := by unfold hldE; repeat' split
                                                                             all_goals decide
theorem plcE_r (m : Md) (x b t : Int) : 0 ≤ plcE m x b t ∧ plcE m x b t ≤ 18 := by
  unfold plcE
  have := hldE_r m x b
  split
  · exact this
  · split <;> decide
theorem PlX.openp (E : Nat → Addr) (hs : Sent 169 w E Er.egs) (x c : Int) (hx : (Lit.int .i64 x).wf = true) (h : PlX w W p z q o m mr) :
    Calls Tryd.prog 11 #[.pointer (some ⟨p, 0, none⟩), .int .i64 x, .int .i64 c] W fun e w' => e = .returned (ee E (opnE m x c)) ∧ PlX w w' p z q o (opn m x c) mr := by
  by_cases he : opnE m x c = 0
  · rw [he]
    exact h.stepp fun L hP => open_yes x c hx W hP he
  · have : opn m x c = m := by unfold opn; rw [if_neg he]
    rw [this]
    obtain ⟨L, M, h1, _⟩ := id h
    exact (open_no E x c hx W h1.i (hs.keep h.B) he).mono fun _ _ ⟨h2, h3⟩ => ⟨h2, h3 ▸ h⟩
theorem PlX.closep (E : Nat → Addr) (hs : Sent 169 w E Er.egs) (x : Int) (hx : (Lit.int .i64 x).wf = true) (h : PlX w W p z q o m mr) :
    Calls Tryd.prog 12 #[.pointer (some ⟨p, 0, none⟩), .int .i64 x] W fun e w' => e = .returned (ee E (clsE m x)) ∧ PlX w w' p z q o (cls m x) mr := by
  by_cases he : clsE m x = 0
  · rw [he]
    exact h.stepp fun L hP => close_yes x hx W hP he
  · have : cls m x = m := by unfold cls; rw [if_neg he]
    rw [this]
    obtain ⟨L, M, h1, _⟩ := id h
    exact (close_no E x hx W h1.i (hs.keep h.B) he).mono fun _ _ ⟨h2, h3⟩ => ⟨h2, h3 ▸ h⟩
theorem PlX.takep (E : Nat → Addr) (hs : Sent 169 w E Er.egs) (hT : Bt.Tab w) (x : Int) (hx : (Lit.int .i64 x).wf = true) (h : PlX w W p z q o m mr) :
    Calls Tryd.prog 13 #[.pointer (some ⟨p, 0, none⟩), .int .i64 x] W fun e w' => e = .returned (.tuple #[.int .i64 (takI m x : Int), ee E (takE m x)]) ∧ PlX w w' p z q o (tak m x) mr := by
  by_cases he : takE m x = 0
  · rw [he]
    exact h.stepp fun L hP => take_yes x hx W hP (hT.below h.B) he
  · have e1 : tak m x = m := by unfold tak; rw [if_neg he]
    have e2 : takI m x = 0 := by unfold takI; rw [if_neg he]
    rw [e1, e2]
    obtain ⟨L, M, h1, _⟩ := id h
    exact (take_no E x hx W h1.i (hT.below h.B) (hs.keep h.B) he).mono fun _ _ ⟨h2, h3⟩ => ⟨h2, h.below h3⟩
theorem PlX.givep (E : Nat → Addr) (hs : Sent 169 w E Er.egs) (x b : Int) (hx : (Lit.int .i64 x).wf = true) (h : PlX w W p z q o m mr) :
    Calls Tryd.prog 14 #[.pointer (some ⟨p, 0, none⟩), .int .i64 x, .int .i64 b] W fun e w' => e = .returned (ee E (hldE m x b)) ∧ PlX w w' p z q o (giv m x b) mr := by
  by_cases he : hldE m x b = 0
  · rw [he]
    exact h.stepp fun L hP => give_yes E x b hx W hP (hs.keep h.B) he
  · have e1 : giv m x b = m := by unfold giv; rw [if_neg he]
    rw [e1]
    obtain ⟨L, M, h1, _⟩ := id h
    exact (give_no E x b hx W h1.i (hs.keep h.B) he).mono fun _ _ ⟨h2, h3⟩ => ⟨h2, h3 ▸ h⟩
theorem PlX.setp (E : Nat → Addr) (hs : Sent 169 w E Er.egs) (x b t : Int) (c : UInt8) (hx : (Lit.int .i64 x).wf = true) (h : PlX w W p z q o m mr) :
    Calls Tryd.prog 31 #[.pointer (some ⟨p, 0, none⟩), .int .i64 x, .int .i64 b, .int .i64 t, .int .u8 (c.toNat : Int)] W fun e w' => e = .returned (ee E (plcE m x b t)) ∧ PlX w w' p z q o (put m x b t c) mr := by
  by_cases he : plcE m x b t = 0
  · rw [he]
    exact h.stepp fun L hP => (set_yes E x b t c hx W hP (hs.keep h.B) he).mono fun _ _ ⟨h2, h3, h4⟩ => ⟨L, h2, h3, h4, Fr.refl _ _⟩
  · have e1 : put m x b t c = m := by unfold put; rw [if_neg he]
    rw [e1]
    obtain ⟨L, M, h1, _⟩ := id h
    exact (set_no E x b t c.toNat hx W h1.i (hs.keep h.B) he).mono fun _ _ ⟨h2, h3⟩ => ⟨h2, h.below h3⟩
theorem PlX.atp (E : Nat → Addr) (hs : Sent 169 w E Er.egs) (x b t : Int) (hx : (Lit.int .i64 x).wf = true) (h : PlX w W p z q o m mr) :
    Calls Tryd.prog 32 #[.pointer (some ⟨p, 0, none⟩), .int .i64 x, .int .i64 b, .int .i64 t] W fun e w' => e = .returned (.tuple #[.int .u8 ((get m x b t).toNat : Int), ee E (plcE m x b t)]) ∧ PlX w w' p z q o m mr := by
  obtain ⟨L, M, h1, _⟩ := id h
  by_cases he : plcE m x b t = 0
  · rw [he]
    exact (at_yes E x b t hx W h1.i (hs.keep h.B) he).mono fun _ _ ⟨h2, h3⟩ => ⟨h2, h.below h3⟩
  · have e1 : get m x b t = 0 := by unfold get; rw [if_neg he]
    rw [e1]
    exact (at_no E x b t hx W h1.i (hs.keep h.B) he).mono fun _ _ ⟨h2, h3⟩ => ⟨h2, h.below h3⟩
theorem PlX.openr (x c : Int) (h : PlX w W p z q o m mr) :
    Calls Tryd.prog 26 #[.pointer (some ⟨z, 0, none⟩), .int .i64 x, .int .i64 c] W fun e w' => e = .returned (.int .i64 (opnE mr x c)) ∧ PlX w w' p z q o m (opn mr x c) := h.stepr fun _ hR => ropen_c x c W hR
theorem PlX.closer (x : Int) (h : PlX w W p z q o m mr) :
    Calls Tryd.prog 27 #[.pointer (some ⟨z, 0, none⟩), .int .i64 x] W fun e w' => e = .returned (.int .i64 (clsE mr x)) ∧ PlX w w' p z q o m (cls mr x) := h.stepr fun _ hR => rclose_c x W hR
theorem PlX.taker (x : Int) (h : PlX w W p z q o m mr) :
    Calls Tryd.prog 28 #[.pointer (some ⟨z, 0, none⟩), .int .i64 x] W fun e w' => e = .returned (.tuple #[.int .i64 (takI mr x : Int), .int .i64 (takE mr x)]) ∧ PlX w w' p z q o m (tak mr x) := h.stepr fun _ hR => rtake_c x W hR
theorem PlX.giver (x b : Int) (h : PlX w W p z q o m mr) :
    Calls Tryd.prog 29 #[.pointer (some ⟨z, 0, none⟩), .int .i64 x, .int .i64 b] W fun e w' => e = .returned (.int .i64 (hldE mr x b)) ∧ PlX w w' p z q o m (giv mr x b) :=
  h.stepr fun M hR => (rgive_c x b W hR).mono fun _ _ ⟨h2, h3, h4⟩ => ⟨M, h2, h3, h4, Fr.refl _ _⟩
theorem PlX.placer (x b t : Int) (h : PlX w W p z q o m mr) :
    Calls Tryd.prog 30 #[.pointer (some ⟨z, 0, none⟩), .int .i64 x, .int .i64 b, .int .i64 t] W fun e w' => e = .returned (.int .i64 (plcE mr x b t)) ∧ PlX w w' p z q o m mr := by
  obtain ⟨L, M, h1, _⟩ := id h
  exact (rplace_c x b t W h1.r).mono fun _ _ ⟨h2, h3⟩ => ⟨h2, h.below h3⟩
theorem PlX.same (x : Int) (hx : (Lit.int .i64 x).wf = true) (h : PlX w W p z q o m m) :
    Calls Tryd.prog 33 #[.pointer (some ⟨p, 0, none⟩), .pointer (some ⟨z, 0, none⟩), .int .i64 x] W fun e w' => e = .returned (.bool true) ∧ PlX w w' p z q o m m := by
  obtain ⟨L, M, h1, _⟩ := id h
  exact (same_c x hx W h1.i h1.r).mono fun _ _ ⟨h2, h3⟩ => ⟨h2, h.below h3⟩
/-- The byte that the law stores itself. -/
theorem PlX.byte (h : PlX w W p z q o m mr) {x b t : Int} (he : plcE mr x b t = 0) :
    ∃ (j i bb bc g : Nat), b = (j : Int) ∧ t = (i : Int) ∧ j < mr.own.length ∧ i < mr.size ∧ W.cell? ⟨z, 2, none⟩ = some (.slice (some ⟨bb, 0, none⟩) mr.own.length bc) ∧ W.cell? ⟨bb, j, none⟩ = some (.slice (some ⟨g, 0, none⟩) mr.size mr.size) ∧
      W.cell? ⟨g, i, none⟩ = some (.int .u8 ((get mr x b t).toNat : Int)) ∧ W.frozen? ⟨g, i, none⟩ = false ∧ z ≠ g ∧ bb ≠ g ∧ ∀ c : UInt8, PlX w (W.setCell ⟨g, i, none⟩ (.int .u8 (c.toNat : Int))) p z q o m (put mr x b t c) := by
  obtain ⟨L, M, h1, h2, h3, h4⟩ := h
  obtain ⟨j, i, bb, bc, g, e1, e2, e3, e4, e5, e6, e7, e8, n1, n2, e9⟩ := h1.r.byte he
  exact ⟨j, i, bb, bc, g, e1, e2, e3, e4, e5, e6, e7, e8, n1, n2, fun c => ⟨L, M, h1.actr (e9 c).1 (e9 c).2 (Fr.refl _ _), ((e9 c).2.block q (block_lt h2) h4).trans h2, h3, h4⟩⟩
end Po
end Go.Proofs.YtpjimmdpcpcmoaaDoor
