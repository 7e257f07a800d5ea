import Derived.Test.YtoeeddfinmfnoaaDoorQRxPure
import Derived.Test.YtoeeddfinmfnoaaDoorQNmEe
import Derived.Test.YtoeeddfinmfnoaaDoorQBrkDot
/- The walks of package regex's reader: fail, more, on, take. Condition: the sentinels read as laid. -/
namespace Go.Proofs.YtoeeddfinmfnoaaDoor
namespace Kt
end Kt
namespace Sp
end Sp
namespace St
end St
namespace Bk
end Bk
namespace Bo
end Bo
open Go Go.RowKit Kt Sp St Bk Bo
open Tr (Nd)
namespace Rx
/-- The errors that the package names. -/
def rgs : List Nat := [3, 4, 0, 6, 1, 2]
/-- The reader at the block p, new since w0. -/
structure Rr (w0 W : World) (p : Nat) (s : ByteArray) (A : Nat → Addr) (st : S) : Prop where
  hp : W.heap[p]? = some (.cells #[.string s, .int .i64 (st.pos : Int), ee A (st.err : Int)] 67 (0, 0))
  B : Below w0.heap.size w0 W
  l : w0.heap.size ≤ p
  hs : Sent 204 w0 A rgs
variable {w0 W W' : World} {p : Nat} {s : ByteArray} {A : Nat → Addr} {st : S}
theorem Rr.below (h : Rr w0 W p s A st) (hb : Below W.heap.size W W') : Rr w0 W' p s A st := ⟨(hb.block p (block_lt h.hp)).trans h.hp, h.B.trans (hb.mono h.B.size), h.l, h.hs⟩
theorem Rr.blk (h : Rr w0 W p s A st) : p < W.heap.size := block_lt h.hp
theorem Rr.cells (h : Rr w0 W p s A st) : W.cell? ⟨p, 0, none⟩ = some (.string s) ∧ W.cell? ⟨p, 1, none⟩ = some (.int .i64 (st.pos : Int)) ∧ W.cell? ⟨p, 2, none⟩ = some (ee A (st.err : Int)) ∧ W.frozen? ⟨p, 1, none⟩ = false ∧ W.frozen? ⟨p, 2, none⟩ = false :=
  ⟨cell_block h.hp 0, cell_block h.hp 1, cell_block h.hp 2, frozen_block h.hp 1, frozen_block h.hp 2⟩
theorem Rr.sent (h : Rr w0 W p s A st) (g : Nat) (hg : g ∈ rgs) : W.cell? ⟨g, 0, none⟩ = some (Er.ev A g) := (h.hs.keep h.B).cell g hg
theorem Rr.setPos (h : Rr w0 W p s A st) (j : Nat) : Rr w0 (W.setCell ⟨p, 1, none⟩ (.int .i64 (j : Int))) p s A ⟨j, st.err⟩ ∧ Mod [p] W (W.setCell ⟨p, 1, none⟩ (.int .i64 (j : Int))) :=
  ⟨⟨by rw [block_setCell h.hp]; rfl, h.B.setCell h.l _, h.l, h.hs⟩, (Mod.refl [p] W).setCell (.inl (by simp)) _⟩
theorem Rr.setErr (h : Rr w0 W p s A st) (e : Nat) : Rr w0 (W.setCell ⟨p, 2, none⟩ (ee A (e : Int))) p s A ⟨st.pos, e⟩ ∧ Mod [p] W (W.setCell ⟨p, 2, none⟩ (ee A (e : Int))) :=
  ⟨⟨by rw [block_setCell h.hp]; rfl, h.B.setCell h.l _, h.l, h.hs⟩, (Mod.refl [p] W).setCell (.inl (by simp)) _⟩
theorem ee_nil (A : Nat → Addr) : ee A ((0 : Nat) : Int) = .nilIface := rfl
theorem ee_range (A : Nat → Addr) : Er.ev A 3 = ee A ((1 : Nat) : Int) := rfl
theorem ee_short (A : Nat → Addr) : Er.ev A 4 = ee A ((2 : Nat) : Int) := rfl
theorem ee_form (A : Nat → Addr) : Er.ev A 0 = ee A ((4 : Nat) : Int) := rfl
theorem ee_name (A : Nat → Addr) : Er.ev A 6 = ee A ((5 : Nat) : Int) := rfl
theorem ee_some (A : Nat → Addr) {e : Nat} (h : e ≠ 0) : ∃ a, ee A (e : Int) = .iface 204 (.pointer (some a)) := by
  unfold ee
  rw [if_neg (by omega)]
  exact ⟨_, rfl⟩
theorem contains_ix (c : UInt8) : ∀ l : List UInt8, decide (0 ≤ Lib.indexByte l c) = l.contains c
  | [] => rfl
  | x :: l => by
    have ih := contains_ix c l
    have hg := Lib.indexByte_ge l c
    unfold Lib.indexByte
    by_cases hx : (x == c) = true
    · have e : x = c := by simpa using hx
      rw [if_pos hx, e]
      simp
    · rw [if_neg hx]
      have e : (x :: l).contains c = l.contains c := by
        rw [List.contains_cons]
        have : (c == x) = false := by
          have : x ≠ c := by simpa using hx
          simpa using fun h => this h.symm
        rw [this, Bool.false_or]
      rw [e, ← ih]
      by_cases h2 : (Lib.indexByte l c == -1) = true
      · have e2 : Lib.indexByte l c = -1 := by simpa using h2
        rw [if_pos h2, e2]
      · rw [if_neg h2]
        have e2 : Lib.indexByte l c ≠ -1 := by simpa using h2
        rw [decide_eq_true (by omega), decide_eq_true (by omega)]
set_option maxRecDepth 100000 in
set_option maxHeartbeats 2000000 in
theorem fail_c (q e : Nat) (he0 : e ≠ 0) (h : Rr w0 W p s A st) : Calls Tryd.prog 49 #[.pointer (some ⟨p, 0, none⟩), .int .i64 (q : Int), ee A (e : Int)] W fun r w' => r = .returned (.tuple #[]) ∧ Rr w0 w' p s A (fail st q e) ∧ Mod [p] W w' := by
  obtain ⟨k0, k1, k2, f1, f2⟩ := h.cells
  by_cases he : st.err = 0
  · have hf : fail st q e = ⟨q, e⟩ := by unfold fail; rw [if_pos he]
    rw [hf]
    rw [he, ee_nil] at k2
    have h1 := h.setPos q
    have h2 := h1.1.setErr e
    have h3 := h.setErr e
    have h4 := h3.1.setPos q
    have HA := Lib.hid (And.intro h2.1 (h1.2.trans h2.2 (fun x hx => .inl hx)))
    have HB := Lib.hid (And.intro h4.1 (h3.2.trans h4.2 (fun x hx => .inl hx)))
    obtain ⟨ae, hE⟩ := ee_some A he0
    rw [hE] at HA HB ⊢
    clear h h1 h2 h3 h4 hE hf
    go_enter Tryd.func49, Tryd.ntmps49
    go_wp2
    first
      | (go_ret; exact ⟨rfl, HA.out⟩)
      | (go_end0; exact ⟨rfl, HA.out⟩)
      | (go_end0; exact ⟨rfl, HB.out⟩)
  · have hf : fail st q e = st := by unfold fail; rw [if_neg he]
    rw [hf]
    obtain ⟨a, ha⟩ := ee_some A he
    rw [ha] at k2
    have H := Lib.hid h
    clear h ha
    obtain ⟨ae, hE⟩ := ee_some A he0
    rw [hE]
    clear hE hf
    go_enter Tryd.func49, Tryd.ntmps49
    go_wp2
    first
      | (go_end0; exact ⟨rfl, H.out, Mod.refl _ _⟩)
      | (go_ret; exact ⟨rfl, H.out, Mod.refl _ _⟩)
set_option maxRecDepth 100000 in
set_option maxHeartbeats 2000000 in
theorem more_c (h : Rr w0 W p s A st) : Calls Tryd.prog 48 #[.pointer (some ⟨p, 0, none⟩)] W fun r w' => r = .returned (.bool (more s.data.toList st)) ∧ ∃ n, w' = W.drewN n := by
  obtain ⟨k0, k1, k2, f1, f2⟩ := h.cells
  unfold more
  rw [← size_list]
  by_cases he : st.err = 0
  · rw [he, ee_nil] at k2
    rw [he]
    by_cases hl : st.pos < s.size
    · have hli : (st.pos : Int) < (s.size : Int) := by omega
      rw [decide_eq_true hl]
      clear h
      go_enter Tryd.func48, Tryd.ntmps48
      go_wp2_with fail
      go_quiet (fail)
      go_wp2
      go_ret
      exact ⟨by first | rfl | (simp; done) | (simp; omega), _, rfl⟩
    · have hli : ¬ (st.pos : Int) < (s.size : Int) := by omega
      rw [decide_eq_false hl]
      clear h
      go_enter Tryd.func48, Tryd.ntmps48
      go_wp2_with fail
      go_quiet (fail)
      go_wp2
      go_ret
      exact ⟨by first | rfl | (simp; done) | (simp; omega), _, rfl⟩
  · obtain ⟨a, ha⟩ := ee_some A he
    rw [ha] at k2
    rw [decide_eq_false he]
    clear h ha
    go_enter Tryd.func48, Tryd.ntmps48
    go_wp2_with fail
    go_quiet (fail)
    go_wp2
    go_ret
    exact ⟨by first | rfl | (simp; done) | (simp; omega), _, rfl⟩
theorem more_q (h : Rr w0 W p s A st) (n : Nat) : Calls Tryd.prog 48 #[.pointer (some ⟨p, 0, none⟩)] (W.drewN n) fun r w' => r = .returned (.bool (more s.data.toList st)) ∧ ∃ m, w' = W.drewN m := by
  refine (more_c (h.below (below_drewN (Below.refl _ _) n))).mono ?_
  rintro r w' ⟨h1, m, h2⟩
  exact ⟨h1, n + m, by rw [h2, World.drewN_drewN]⟩
theorem Rr.drewN (h : Rr w0 W p s A st) (n : Nat) : Rr w0 (W.drewN n) p s A st := h.below (below_drewN (Below.refl _ _) n)
theorem Rr.drew (h : Rr w0 W p s A st) : Rr w0 W.drew p s A st := h.below (Below.refl _ _).drew
/-- strings.IndexByte, of a byte that is looked for. -/
theorem ix_q (l : List UInt8) (c : UInt8) (W : World) (n : Nat) : Calls Tryd.prog 133 #[.string (Str l), .int .u8 (c.toNat : Int)] (W.drewN n) fun e w' => e = .returned (.int .i64 (Lib.indexByte l c)) ∧ ∃ m, w' = W.drewN m := by
  refine (Sp.ix_c l c _ rfl (W.drewN n)).mono ?_
  rintro e w' ⟨h1, rfl⟩
  exact ⟨h1, n, rfl⟩
set_option maxRecDepth 100000 in
set_option maxHeartbeats 2000000 in
theorem on_c (l : List UInt8) (_hsz : s.size ≤ 1000000) (h : Rr w0 W p s A st) : Calls Tryd.prog 104 #[.pointer (some ⟨p, 0, none⟩), .string (Str l)] W fun r w' => r = .returned (.bool (on s.data.toList st l)) ∧ ∃ n, w' = W.drewN n := by
  obtain ⟨k0, k1, k2, f1, f2⟩ := h.cells
  have HM := Lib.hid (more_q h)
  obtain ⟨M, hM⟩ : ∃ M, more s.data.toList st = M := ⟨_, rfl⟩
  unfold on
  rw [hM] at HM ⊢
  cases M with
  | false =>
    rw [Bool.false_and]
    clear h hM k0 k1 k2 f1 f2
    obtain ⟨L, hL⟩ : ∃ L, Str l = L := ⟨_, rfl⟩
    rw [hL]
    clear hL
    go_enter Tryd.func104, Tryd.ntmps104
    go_wp2_with fail
    go_quiet (exact HM.out _)
    go_wp2
    go_ret
    exact ⟨rfl, _, rfl⟩
  | true =>
    have hlt : st.pos < s.size := by rw [size_list]; exact (more_lt hM).2
    obtain ⟨c, hc⟩ := get_lt (l := s.data.toList) (i := st.pos) (by rw [← size_list]; exact hlt)
    have hcur : cur s.data.toList st.pos = c := by unfold cur; rw [List.getD_eq_getElem?_getD, hc]; rfl
    have ix := fun w => idx_run Tryd.underlying9 s .i64 (st.pos : Int) st.pos c rfl hc w
    have HX := Lib.hid (ix_q l c W)
    rw [hcur, ← contains_ix, Bool.true_and]
    obtain ⟨K, hK⟩ : ∃ K, Lib.indexByte l c = K := ⟨_, rfl⟩
    rw [hK] at HX ⊢
    obtain ⟨L, hL⟩ : ∃ L, Str l = L := ⟨_, rfl⟩
    rw [hL] at HX ⊢
    clear h hM hc hcur hK hL
    generalize c.toNat = cn at *
    go_enter Tryd.func104, Tryd.ntmps104
    go_wp2_with fail
    go_quiet (first | exact HM.out _ | exact HX.out _)
    go_wp2
    go_ret
    exact ⟨by first | rfl | (simp; done), _, rfl⟩
theorem on_q (l : List UInt8) (hsz : s.size ≤ 1000000) (h : Rr w0 W p s A st) (n : Nat) : Calls Tryd.prog 104 #[.pointer (some ⟨p, 0, none⟩), .string (Str l)] (W.drewN n) fun r w' => r = .returned (.bool (on s.data.toList st l)) ∧ ∃ m, w' = W.drewN m := by
  refine (on_c l hsz (h.drewN n)).mono ?_
  rintro r w' ⟨h1, m, h2⟩
  exact ⟨h1, n + m, by rw [h2, World.drewN_drewN]⟩
set_option maxRecDepth 100000 in
set_option maxHeartbeats 2000000 in
theorem take_c (c : UInt8) (hsz : s.size ≤ 1000000) (h : Rr w0 W p s A st) : Calls Tryd.prog 74 #[.pointer (some ⟨p, 0, none⟩), .string (Str [c])] W fun r w' => r = .returned (.bool (on s.data.toList st [c])) ∧ Rr w0 w' p s A (takeS s.data.toList st c) ∧ Mod [p] W w' := by
  have HO := Lib.hid (on_c [c] hsz h)
  have H := Lib.hid h
  obtain ⟨O, hO⟩ : ∃ O, on s.data.toList st [c] = O := ⟨_, rfl⟩
  unfold takeS
  rw [hO] at HO ⊢
  obtain ⟨L, hL⟩ : ∃ L, Str [c] = L := ⟨_, rfl⟩
  rw [hL] at HO ⊢
  cases O with
  | false =>
    clear h hO hL
    go_enter Tryd.func74, Tryd.ntmps74
    go_wp2_with fail
    refine HO.out.mono ?_
    rintro _ w1 ⟨rfl, n, rfl⟩
    go_wp2
    go_ret
    exact ⟨rfl, H.out.drewN n, (Mod.refl _ _).drewN n⟩
  | true =>
    have hlt : st.pos < s.size := by rw [size_list]; exact (on_lt hO).2
    have hws : IntKind.i64.wrap ((st.pos : Int) + 1) = ((st.pos + 1 : Nat) : Int) := by rw [IntKind.wrap_i64]; omega
    clear h hO hL
    go_enter Tryd.func74, Tryd.ntmps74
    go_wp2_with fail
    refine HO.out.mono ?_
    rintro _ w1 ⟨rfl, n, rfl⟩
    obtain ⟨k0, k1, k2, f1, f2⟩ := (H.out.drewN n).cells
    have h2 := (H.out.drewN n).setPos (st.pos + 1)
    have H2 := Lib.hid (And.intro h2.1 (((Mod.refl [p] W).drewN n).trans h2.2 (fun x hx => .inl hx)))
    clear h2
    go_wp2
    go_ret
    exact ⟨rfl, H2.out⟩
end Rx
end Go.Proofs.YtoeeddfinmfnoaaDoor

/- The walks of package regex's reader: number, bounded. -/
namespace Go.Proofs.YtoeeddfinmfnoaaDoor
open Go Go.RowKit Kt Sp St Bk Bo
open Tr (Nd)
namespace Rx
variable {w0 W W' : World} {p : Nat} {s : ByteArray} {A : Nat → Addr} {st : S}
theorem figs_range {c : UInt8} (h : figs.contains c = true) : 48 ≤ c.toNat ∧ c.toNat ≤ 57 := by
  simp only [figs, List.contains_cons, List.contains_nil, Bool.or_false, Bool.or_eq_true, beq_iff_eq] at h
  rcases h with h | h | h | h | h | h | h | h | h | h <;> subst h <;> decide
theorem str_figs : Str figs = ⟨#[48, 49, 50, 51, 52, 53, 54, 55, 56, 57]⟩ := rfl
theorem numL_no {t : List UInt8} {frm k n : Nat} {s : S} (h : on t s figs = false) : numL t frm k s n = (s, n, false) := by
  cases k with
  | zero => rfl
  | succ k => unfold numL; rw [if_neg (by rw [h]; simp)]
theorem numL_over {t : List UInt8} {frm k n : Nat} {s : S} (h : on t s figs = true) (h2 : s.pos - frm = 2) : numL t frm (k + 1) s n = (fail s frm 1, 0, true) := by
  unfold numL
  rw [if_pos h, if_pos h2]
theorem numL_go {t : List UInt8} {frm k n : Nat} {s : S} (h : on t s figs = true) (h2 : ¬ s.pos - frm = 2) : numL t frm (k + 1) s n = numL t frm k (nx s) (10 * n + ((cur t s.pos).toNat - 48)) := by
  conv => lhs; unfold numL
  rw [if_pos h, if_neg h2]
theorem number_eq {t : List UInt8} {s s' : S} {n : Nat} {b : Bool} (h : numL t s.pos 4 s 0 = (s', n, b)) : number t s = if b then (0, s') else if 40 < n then (n, fail s' s.pos 1) else (n, s') := by
  unfold number
  rw [h]
/-- The place in the reader. -/
def cellP (W : World) (p : Nat) : Nat := match W.cell? ⟨p, 1, none⟩ with | some (.int _ x) => x.toNat | _ => 0
theorem Rr.cellP (h : Rr w0 W p s A st) : cellP W p = st.pos := by
  unfold Rx.cellP
  rw [h.cells.2.1]
  simp
set_option maxRecDepth 100000 in
set_option maxHeartbeats 4000000 in
theorem number_c (hsz : s.size ≤ 1000000) (h : Rr w0 W p s A st) : Calls Tryd.prog 153 #[.pointer (some ⟨p, 0, none⟩)] W fun r w' => r = .returned (.int .i64 ((number s.data.toList st).1 : Int)) ∧ Rr w0 w' p s A (number s.data.toList st).2 ∧ Mod [p] W w' := by
  have hon : ∀ V st', Rr w0 V p s A st' → Calls Tryd.prog 104 #[.pointer (some ⟨p, 0, none⟩), .string ⟨#[48, 49, 50, 51, 52, 53, 54, 55, 56, 57]⟩] V fun r w' => r = .returned (.bool (on s.data.toList st' figs)) ∧ ∃ n, w' = V.drewN n := fun V st' h' => by
    have := on_c figs hsz h'
    rw [str_figs] at this
    exact this
  have HOn := Lib.hid hon
  have HFail : Hid (∀ V st' q, Rr w0 V p s A st' → Calls Tryd.prog 49 #[.pointer (some ⟨p, 0, none⟩), .int .i64 ((q : Nat) : Int), Er.ev A 3] V fun r w' => r = .returned (.tuple #[]) ∧ Rr w0 w' p s A (fail st' q 1) ∧ Mod [p] V w') := Lib.hid fun V st' q h' => by
    rw [ee_range]
    exact fail_c q 1 (by decide) h'
  have hsl := size_list s
  obtain ⟨t, ht⟩ : ∃ t, s.data.toList = t := ⟨_, rfl⟩
  rw [ht] at HOn hsl ⊢
  have Ht := Lib.hid ht
  have H := Lib.hid h
  obtain ⟨k0, k1, k2, f1, f2⟩ := h.cells
  obtain ⟨E, hE⟩ : ∃ E, Er.ev A 3 = E := ⟨_, rfl⟩
  rw [hE] at HFail
  have HE := Lib.hid hE
  clear h hon ht hE
  obtain ⟨P0, hP0⟩ : ∃ P, st.pos = P := ⟨_, rfl⟩
  rw [hP0] at k1
  have HP0 := Lib.hid hP0
  clear hP0
  go_enter Tryd.func153, Tryd.ntmps153
  go_wp2
  clear k0 k1 k2 f1 f2
  go_loopw [4] (fun vn V => ∃ (j n : Nat), j ≤ 2 ∧ n < 10 ^ j ∧ vn = .int .i64 (n : Int) ∧ Rr w0 V p s A ⟨P0 + j, st.err⟩ ∧ Mod [p] W V ∧ numL t P0 4 st 0 = numL t P0 (4 - j) ⟨P0 + j, st.err⟩ n) (fun vn V => s.size - cellP V p)
  case atStart => exact ⟨0, 0, Nat.zero_le _, by decide, rfl, by rw [Nat.add_zero, ← HP0.out]; exact H.out, Mod.refl _ _, by rw [Nat.add_zero, Nat.sub_zero, ← HP0.out]⟩
  case round =>
    obtain ⟨j, n, hj, hn, rfl, hR, hM, hN⟩ := hrel
    have hn2 : n < 100 := by
      have : 10 ^ j ≤ 10 ^ 2 := Nat.pow_le_pow_right (by decide) hj
      omega
    have HR := Lib.hid hR
    have HM := Lib.hid hM
    have hol := HOn.out wr _ hR
    obtain ⟨O, hO⟩ : ∃ O, on t ⟨P0 + j, st.err⟩ figs = O := ⟨_, rfl⟩
    rw [hO] at hol
    cases O with
    | false =>
      have hnum : number t st = if 40 < n then (n, fail ⟨P0 + j, st.err⟩ P0 1) else (n, ⟨P0 + j, st.err⟩) := by
        rw [numL_no hO] at hN
        have := number_eq (t := t) (s := st) (s' := ⟨P0 + j, st.err⟩) (n := n) (b := false) (by rw [HP0.out]; exact hN)
        rw [this, HP0.out]
        rfl
      have HOl := Lib.hid hol
      clear hol hO hN hR hM hn HOn
      by_cases h40 : 40 < n
      · rw [if_pos h40] at hnum
        have h40i : (40 : Int) < (n : Int) := by omega
        have HNum := Lib.hid hnum
        clear hnum
        go_wp2_with fail
        refine HOl.out.mono ?_
        rintro _ w1 ⟨rfl, m1, rfl⟩
        have g3 := (HR.out.drewN m1).sent 3 (by simp [rgs])
        rw [HE.out] at g3
        have HF := Lib.hid (HFail.out _ _ P0 (HR.out.drewN m1))
        go_wp2_with fail
        refine HF.out.mono ?_
        rintro _ w2 ⟨rfl, hr2, hm2⟩
        have H2 := Lib.hid (And.intro hr2 ((HM.out.drewN m1).trans hm2 (fun x hx => .inl hx)))
        clear hr2 hm2 g3
        go_wp2
        go_ret
        rw [HNum.out]
        exact ⟨rfl, H2.out⟩
      · rw [if_neg h40] at hnum
        have h40i : ¬ (40 : Int) < (n : Int) := by omega
        have HNum := Lib.hid hnum
        clear hnum
        go_wp2_with fail
        refine HOl.out.mono ?_
        rintro _ w1 ⟨rfl, m1, rfl⟩
        go_wp2
        go_ret
        rw [HNum.out]
        exact ⟨rfl, HR.out.drewN m1, HM.out.drewN m1⟩
    | true =>
      have hlt : P0 + j < t.length := (on_lt hO).2
      have hfc : figs.contains (cur t (P0 + j)) = true := by
        unfold on at hO
        exact (Bool.and_eq_true_iff.1 hO).2
      have hfr := figs_range hfc
      have hs0 : P0 + j < 1000000 := by omega
      have d1 : ((P0 + j : Nat) : Int) - (P0 : Int) = (j : Int) := by omega
      have d2 : IntKind.i64.wrap (((P0 + j : Nat) : Int) - (P0 : Int)) = (j : Int) := by rw [IntKind.wrap_i64]; omega
      by_cases hj2 : j = 2
      · have hnum : number t st = (0, fail ⟨P0 + j, st.err⟩ P0 1) := by
          rw [show 4 - j = 1 + 1 by omega, numL_over hO (by simp only; omega)] at hN
          have := number_eq (t := t) (s := st) (s' := fail ⟨P0 + j, st.err⟩ P0 1) (n := 0) (b := true) (by rw [HP0.out]; exact hN)
          rw [this]
          rfl
        have dj : ((j : Int) == 2) = true := by simp; omega
        have dj' : decide ((j : Int) = 2) = true := by simp; omega
        have HNum := Lib.hid hnum
        have HOl := Lib.hid hol
        clear hol hO hN hR hM hn HOn hnum hfc hfr
        go_wp2_with fail
        refine HOl.out.mono ?_
        rintro _ w1 ⟨rfl, m1, rfl⟩
        have g3 := (HR.out.drewN m1).sent 3 (by simp [rgs])
        rw [HE.out] at g3
        have HF := Lib.hid (HFail.out _ _ P0 (HR.out.drewN m1))
        obtain ⟨k0, k1, k2, f1, f2⟩ := (HR.out.drewN m1).cells
        subst hj2
        go_wp2_with fail
        refine HF.out.mono ?_
        rintro _ w2 ⟨rfl, hr2, hm2⟩
        have H2 := Lib.hid (And.intro hr2 ((HM.out.drewN m1).trans hm2 (fun x hx => .inl hx)))
        clear hr2 hm2 g3
        go_wp2
        go_ret
        rw [HNum.out]
        exact ⟨rfl, H2.out⟩
      · obtain ⟨c, hc⟩ := get_lt hlt
        have hcc : cur t (P0 + j) = c := by unfold cur; rw [List.getD_eq_getElem?_getD, hc]; rfl
        rw [hcc] at hfr
        obtain ⟨d, hd⟩ : ∃ d : Nat, c.toNat - 48 = d := ⟨_, rfl⟩
        have hstep : numL t P0 (4 - j) ⟨P0 + j, st.err⟩ n = numL t P0 (4 - (j + 1)) ⟨P0 + (j + 1), st.err⟩ (10 * n + d) := by
          rw [show 4 - j = (4 - (j + 1)) + 1 by omega, numL_go hO (by simp only; omega)]
          simp only
          rw [hcc, hd]
          rfl
        have HN := Lib.hid (hN.trans hstep)
        have dj : ((j : Int) == 2) = false := by simp; omega
        have dj' : decide ((j : Int) = 2) = false := by simp; omega
        have ix := fun w => idx_run Tryd.underlying9 s .i64 ((P0 + j : Nat) : Int) (P0 + j) c rfl (by rw [Ht.out]; exact hc) w
        have u1 : (c.toNat : Int) - 48 = (d : Int) := by omega
        have u2 : IntKind.u8.wrap ((c.toNat : Int) - 48) = (d : Int) := by rw [IntKind.wrap_u8]; omega
        have u3 : IntKind.i64.wrap (d : Int) = (d : Int) := by rw [IntKind.wrap_i64]; omega
        have u4 : IntKind.i64.wrap (10 * (n : Int)) = 10 * (n : Int) := by rw [IntKind.wrap_i64]; omega
        have u5 : IntKind.i64.wrap (10 * (n : Int) + (d : Int)) = 10 * (n : Int) + (d : Int) := by rw [IntKind.wrap_i64]; omega
        have u6 : IntKind.i64.wrap (((P0 + j : Nat) : Int) + 1) = ((P0 + (j + 1) : Nat) : Int) := by rw [IntKind.wrap_i64]; omega
        have u7 : ((P0 + j : Nat) : Int) + 1 = ((P0 + (j + 1) : Nat) : Int) := by omega
        have hn3 : 10 * n + d < 10 ^ (j + 1) := by rw [Nat.pow_succ]; omega
        have hps : ((P0 + j : Nat) : Int) < (s.size : Int) := by omega
        have HOl := Lib.hid hol
        clear hol hO hN hR hM hn HOn hfc hstep hcc hc
        generalize c.toNat = cn at *
        obtain ⟨Q, hQ⟩ : ∃ Q, P0 + j = Q := ⟨_, rfl⟩
        obtain ⟨Q2, hQ2⟩ : ∃ Q, P0 + (j + 1) = Q := ⟨_, rfl⟩
        rw [hQ] at HR d1 d2 ix u6 u7 hps
        rw [hQ2] at HN u6 u7
        have HQ := Lib.hid (And.intro hQ hQ2)
        clear hQ hQ2
        go_wp2_with fail
        refine HOl.out.mono ?_
        rintro _ w1 ⟨rfl, m1, rfl⟩
        obtain ⟨k0, k1, k2, f1, f2⟩ := HR.out.cells
        go_wp2_with fail
        go_quiet (fail)
        have h4 := ((HR.out.drewN m1).drewN nq).setPos Q2
        have hm4 := ((HM.out.drewN m1).drewN nq).trans h4.2 (fun x hx => .inl hx)
        rw [World.drewN_drewN] at h4 hm4
        have H4 := Lib.hid (And.intro h4.1 hm4)
        clear hm4
        clear h4
        go_wp2
        go_roundw
        case rel => exact ⟨j + 1, 10 * n + d, by omega, hn3, by go_num, by rw [HQ.out.2]; exact H4.out.1, H4.out.2, by rw [HQ.out.2]; exact HN.out⟩
        case measure =>
          have e1 := HR.out.cellP
          have e2 := H4.out.1.cellP
          simp only at e1 e2
          have := HQ.out
          first
            | (rw [e1, e2]; omega)
            | (simp only [World.drewN_drewN] at e2 ⊢; rw [e1, e2]; omega)
set_option maxRecDepth 100000 in
set_option maxHeartbeats 4000000 in
theorem bounded_c (hsz : s.size ≤ 1000000) (h : Rr w0 W p s A st) : Calls Tryd.prog 135 #[.pointer (some ⟨p, 0, none⟩)] W fun r w' => r = .returned (.bool (bounded s.data.toList st)) ∧ ∃ n, w' = W.drewN n := by
  obtain ⟨k0, k1, k2, f1, f2⟩ := h.cells
  have hq := on_q [123] hsz h
  have hL : Str [123] = ⟨#[123]⟩ := rfl
  rw [hL] at hq
  have hsl := size_list s
  obtain ⟨O, hO⟩ : ∃ O, on s.data.toList st [123] = O := ⟨_, rfl⟩
  unfold bounded
  rw [hO] at hq ⊢
  have HQ := Lib.hid hq
  cases O with
  | false =>
    rw [Bool.false_and]
    clear h hO hq hL hsl
    go_enter Tryd.func135, Tryd.ntmps135
    go_wp2_with fail
    go_quiet (exact HQ.out _)
    go_wp2
    go_ret
    exact ⟨rfl, _, rfl⟩
  | true =>
    have hlt : st.pos < s.size := by rw [hsl]; exact (on_lt hO).2
    have u1 : IntKind.i64.wrap ((st.pos : Int) + 1) = ((st.pos + 1 : Nat) : Int) := by rw [IntKind.wrap_i64]; omega
    have u2 : (st.pos : Int) + 1 = ((st.pos + 1 : Nat) : Int) := by omega
    rw [Bool.true_and, ← hsl]
    by_cases hl : st.pos + 1 < s.size
    · have i1 : ((st.pos + 1 : Nat) : Int) < (s.size : Int) := by omega
      have i1d : decide (((st.pos + 1 : Nat) : Int) < (s.size : Int)) = true := by simp; omega
      have i1n : decide (st.pos + 1 < s.size) = true := by simp; omega
      obtain ⟨c, hc⟩ := get_lt (l := s.data.toList) (i := st.pos + 1) (by rw [← hsl]; exact hl)
      have hcur : cur s.data.toList (st.pos + 1) = c := by unfold cur; rw [List.getD_eq_getElem?_getD, hc]; rfl
      have ix := fun w => idx_run Tryd.underlying9 s .i64 ((st.pos + 1 : Nat) : Int) (st.pos + 1) c rfl hc w
      have hx := ix_q figs c W
      rw [str_figs] at hx
      rw [decide_eq_true hl, Bool.true_and, hcur, ← contains_ix]
      obtain ⟨K, hK⟩ : ∃ K, Lib.indexByte figs c = K := ⟨_, rfl⟩
      rw [hK] at hx ⊢
      have HX := Lib.hid hx
      clear h hO hq hL hsl hc hcur hx hK
      generalize c.toNat = cn at *
      generalize st.pos + 1 = Q at *
      go_enter Tryd.func135, Tryd.ntmps135
      go_wp2_with fail
      go_quiet (first | exact HQ.out _ | exact HX.out _)
      go_wp2
      go_ret
      exact ⟨by first | rfl | (simp; done), _, rfl⟩
    · have i1 : ¬ ((st.pos + 1 : Nat) : Int) < (s.size : Int) := by omega
      have i1d : decide (((st.pos + 1 : Nat) : Int) < (s.size : Int)) = false := by simp; omega
      have i1n : decide (st.pos + 1 < s.size) = false := by simp; omega
      rw [decide_eq_false hl, Bool.false_and]
      clear h hO hq hL hsl
      generalize st.pos + 1 = Q at *
      go_enter Tryd.func135, Tryd.ntmps135
      go_wp2_with fail
      go_quiet (first | exact HQ.out _ | fail)
      go_wp2
      go_ret
      exact ⟨rfl, _, rfl⟩
end Rx
end Go.Proofs.YtoeeddfinmfnoaaDoor
