import Derived.Test.YtoeeddfinmfnoaaDoorQRxPure
import Derived.Test.YtoeeddfinmfnoaaDoorQNmEe
import Derived.Test.YtoeeddfinmfnoaaDoorQBrkRead
/- The walks of package regex's reader: fail, more, on, take. Condition: the sentinels read as laid. -/
namespace Go.Proofs.YtoeeddfinmfnoaaDoor
namespace Kt
end Kt
namespace Sp
end Sp
namespace St
end St
namespace Bk
end Bk
namespace Bo
end Bo
open Go Go.RowKit Kt Sp St Bk Bo
open Tr (Nd)
namespace Rx
/-- The reader at the block p, new since w0. -/
structure Rr (w0 W : World) (p : Nat) (s : ByteArray) (A : Nat → Addr) (st : S) : Prop where
  hp : W.heap[p]? = some (.cells #[.string s, .int .i64 (st.pos : Int), ee A (st.err : Int)] 67 (0, 0))
  B : Below w0.heap.size w0 W
  l : w0.heap.size ≤ p
  hs : Sent 204 w0 A Er.egs
variable {w0 W W' : World} {p : Nat} {s : ByteArray} {A : Nat → Addr} {st : S}
theorem Rr.below (h : Rr w0 W p s A st) (hb : Below W.heap.size W W') : Rr w0 W' p s A st := ⟨(hb.block p (block_lt h.hp)).trans h.hp, h.B.trans (hb.mono h.B.size), h.l, h.hs⟩
theorem Rr.blk (h : Rr w0 W p s A st) : p < W.heap.size := block_lt h.hp
theorem Rr.cells (h : Rr w0 W p s A st) : W.cell? ⟨p, 0, none⟩ = some (.string s) ∧ W.cell? ⟨p, 1, none⟩ = some (.int .i64 (st.pos : Int)) ∧ W.cell? ⟨p, 2, none⟩ = some (ee A (st.err : Int)) ∧ W.frozen? ⟨p, 1, none⟩ = false ∧ W.frozen? ⟨p, 2, none⟩ = false :=
  ⟨cell_block h.hp 0, cell_block h.hp 1, cell_block h.hp 2, frozen_block h.hp 1, frozen_block h.hp 2⟩
theorem Rr.sent (h : Rr w0 W p s A st) (g : Nat) (hg : g ∈ Er.egs) : W.cell? ⟨g, 0, none⟩ = some (Er.ev A g) := (h.hs.keep h.B).cell g hg
theorem Rr.setPos (h : Rr w0 W p s A st) (j : Nat) : Rr w0 (W.setCell ⟨p, 1, none⟩ (.int .i64 (j : Int))) p s A ⟨j, st.err⟩ ∧ Mod [p] W (W.setCell ⟨p, 1, none⟩ (.int .i64 (j : Int))) :=
  ⟨⟨by rw [block_setCell h.hp]; rfl, h.B.setCell h.l _, h.l, h.hs⟩, (Mod.refl [p] W).setCell (.inl (by simp)) _⟩
theorem Rr.setErr (h : Rr w0 W p s A st) (e : Nat) : Rr w0 (W.setCell ⟨p, 2, none⟩ (ee A (e : Int))) p s A ⟨st.pos, e⟩ ∧ Mod [p] W (W.setCell ⟨p, 2, none⟩ (ee A (e : Int))) :=
  ⟨⟨by rw [block_setCell h.hp]; rfl, h.B.setCell h.l _, h.l, h.hs⟩, (Mod.refl [p] W).setCell (.inl (by simp)) _⟩
theorem ee_nil (A : Nat → Addr) : ee A ((0 : Nat) : Int) = .nilIface := rfl
theorem ee_range (A : Nat → Addr) : Er.ev A 3 = ee A ((1 : Nat) : Int) := rfl
theorem ee_short (A : Nat → Addr) : Er.ev A 4 = ee A ((2 : Nat) : Int) := rfl
theorem ee_form (A : Nat → Addr) : Er.ev A 0 = ee A ((4 : Nat) : Int) := rfl
theorem ee_name (A : Nat → Addr) : Er.ev A 6 = ee A ((5 : Nat) : Int) := rfl
theorem ee_some (A : Nat → Addr) {e : Nat} (h : e ≠ 0) : ∃ a, ee A (e : Int) = .iface 204 (.pointer (some a)) := by
  unfold ee
  rw [if_neg (by omega)]
  exact ⟨_, rfl⟩
theorem contains_ix (c : UInt8) : ∀ l : List UInt8, decide (0 ≤ Lib.indexByte l c) = l.contains c
  | [] => rfl
  | x :: l => by
    have ih := contains_ix c l
    have hg := Lib.indexByte_ge l c
    unfold Lib.indexByte
    by_cases hx : (x == c) = true
    · have e : x = c := by simpa using hx
      rw [if_pos hx, e]
      simp
    · rw [if_neg hx]
      have e : (x :: l).contains c = l.contains c := by
        rw [List.contains_cons]
        have : (c == x) = false := by
          have : x ≠ c := by simpa using hx
          simpa using fun h => this h.symm
        rw [this, Bool.false_or]
      rw [e, ← ih]
      by_cases h2 : (Lib.indexByte l c == -1) = true
      · have e2 : Lib.indexByte l c = -1 := by simpa using h2
        rw [if_pos h2, e2]
      · rw [if_neg h2]
        have e2 : Lib.indexByte l c ≠ -1 := by simpa using h2
        rw [decide_eq_true (by omega), decide_eq_true (by omega)]
set_option maxRecDepth 100000 in
set_option maxHeartbeats 2000000 in
theorem fail_c (q e : Nat) (he0 : e ≠ 0) (h : Rr w0 W p s A st) : Calls Tryd.prog 49 #[.pointer (some ⟨p, 0, none⟩), .int .i64 (q : Int), ee A (e : Int)] W fun r w' => r = .returned (.tuple #[]) ∧ Rr w0 w' p s A (fail st q e) ∧ Mod [p] W w' := by
  obtain ⟨k0, k1, k2, f1, f2⟩ := h.cells
  by_cases he : st.err = 0
  · have hf : fail st q e = ⟨q, e⟩ := by unfold fail; rw [if_pos he]
    rw [hf]
    rw [he, ee_nil] at k2
    have h1 := h.setPos q
    have h2 := h1.1.setErr e
    have h3 := h.setErr e
    have h4 := h3.1.setPos q
    have HA := Lib.hid (And.intro h2.1 (h1.2.trans h2.2 (fun x hx => .inl hx)))
    have HB := Lib.hid (And.intro h4.1 (h3.2.trans h4.2 (fun x hx => .inl hx)))
    obtain ⟨ae, hE⟩ := ee_some A he0
    rw [hE] at HA HB ⊢
    clear h h1 h2 h3 h4 hE hf
    go_enter Tryd.func49, Tryd.ntmps49
    go_wp2
    first
      | (go_ret; exact ⟨rfl, HA.out⟩)
      | (go_end0; exact ⟨rfl, HA.out⟩)
      | (go_end0; exact ⟨rfl, HB.out⟩)
  · have hf : fail st q e = st := by unfold fail; rw [if_neg he]
    rw [hf]
    obtain ⟨a, ha⟩ := ee_some A he
    rw [ha] at k2
    have H := Lib.hid h
    clear h ha
    obtain ⟨ae, hE⟩ := ee_some A he0
    rw [hE]
    clear hE hf
    go_enter Tryd.func49, Tryd.ntmps49
    go_wp2
    first
      | (go_end0; exact ⟨rfl, H.out, Mod.refl _ _⟩)
      | (go_ret; exact ⟨rfl, H.out, Mod.refl _ _⟩)
set_option maxRecDepth 100000 in
set_option maxHeartbeats 2000000 in
theorem more_c (h : Rr w0 W p s A st) : Calls Tryd.prog 48 #[.pointer (some ⟨p, 0, none⟩)] W fun r w' => r = .returned (.bool (more s.data.toList st)) ∧ ∃ n, w' = W.drewN n := by
  obtain ⟨k0, k1, k2, f1, f2⟩ := h.cells
  unfold more
  rw [← size_list]
  by_cases he : st.err = 0
  · rw [he, ee_nil] at k2
    rw [he]
    by_cases hl : st.pos < s.size
    · have hli : (st.pos : Int) < (s.size : Int) := by omega
      rw [decide_eq_true hl]
      clear h
      go_enter Tryd.func48, Tryd.ntmps48
      go_wp2_with fail
      go_quiet (fail)
      go_wp2
      go_ret
      exact ⟨by first | rfl | (simp; done) | (simp; omega), _, rfl⟩
    · have hli : ¬ (st.pos : Int) < (s.size : Int) := by omega
      rw [decide_eq_false hl]
      clear h
      go_enter Tryd.func48, Tryd.ntmps48
      go_wp2_with fail
      go_quiet (fail)
      go_wp2
      go_ret
      exact ⟨by first | rfl | (simp; done) | (simp; omega), _, rfl⟩
  · obtain ⟨a, ha⟩ := ee_some A he
    rw [ha] at k2
    rw [decide_eq_false he]
    clear h ha
    go_enter Tryd.func48, Tryd.ntmps48
    go_wp2_with fail
    go_quiet (fail)
    go_wp2
    go_ret
    exact ⟨by first | rfl | (simp; done) | (simp; omega), _, rfl⟩
theorem more_q (h : Rr w0 W p s A st) (n : Nat) : Calls Tryd.prog 48 #[.pointer (some ⟨p, 0, none⟩)] (W.drewN n) fun r w' => r = .returned (.bool (more s.data.toList st)) ∧ ∃ m, w' = W.drewN m := by
  refine (more_c (h.below (below_drewN (Below.refl _ _) n))).mono ?_
  rintro r w' ⟨h1, m, h2⟩
  exact ⟨h1, n + m, by rw [h2, World.drewN_drewN]⟩
theorem Rr.drewN (h : Rr w0 W p s A st) (n : Nat) : Rr w0 (W.drewN n) p s A st := h.below (below_drewN (Below.refl _ _) n)
theorem Rr.drew (h : Rr w0 W p s A st) : Rr w0 W.drew p s A st := h.below (Below.refl _ _).drew
/-- strings.IndexByte, of a byte that is looked for. -/
theorem ix_q (l : List UInt8) (c : UInt8) (W : World) (n : Nat) : Calls Tryd.prog 133 #[.string (Str l), .int .u8 (c.toNat : Int)] (W.drewN n) fun e w' => e = .returned (.int .i64 (Lib.indexByte l c)) ∧ ∃ m, w' = W.drewN m := by
  refine (Sp.ix_c l c _ rfl (W.drewN n)).mono ?_
  rintro e w' ⟨h1, rfl⟩
  exact ⟨h1, n, rfl⟩
set_option maxRecDepth 100000 in
set_option maxHeartbeats 2000000 in
theorem on_c (l : List UInt8) (_hsz : s.size ≤ 1000000) (h : Rr w0 W p s A st) : Calls Tryd.prog 104 #[.pointer (some ⟨p, 0, none⟩), .string (Str l)] W fun r w' => r = .returned (.bool (on s.data.toList st l)) ∧ ∃ n, w' = W.drewN n := by
  obtain ⟨k0, k1, k2, f1, f2⟩ := h.cells
  have HM := Lib.hid (more_q h)
  obtain ⟨M, hM⟩ : ∃ M, more s.data.toList st = M := ⟨_, rfl⟩
  unfold on
  rw [hM] at HM ⊢
  cases M with
  | false =>
    rw [Bool.false_and]
    clear h hM k0 k1 k2 f1 f2
    obtain ⟨L, hL⟩ : ∃ L, Str l = L := ⟨_, rfl⟩
    rw [hL]
    clear hL
    go_enter Tryd.func104, Tryd.ntmps104
    go_wp2_with fail
    go_quiet (exact HM.out _)
    go_wp2
    go_ret
    exact ⟨rfl, _, rfl⟩
  | true =>
    have hlt : st.pos < s.size := by rw [size_list]; exact (more_lt hM).2
    obtain ⟨c, hc⟩ := get_lt (l := s.data.toList) (i := st.pos) (by rw [← size_list]; exact hlt)
    have hcur : cur s.data.toList st.pos = c := by unfold cur; rw [List.getD_eq_getElem?_getD, hc]; rfl
    have ix := fun w => idx_run Tryd.underlying9 s .i64 (st.pos : Int) st.pos c rfl hc w
    have HX := Lib.hid (ix_q l c W)
    rw [hcur, ← contains_ix, Bool.true_and]
    obtain ⟨K, hK⟩ : ∃ K, Lib.indexByte l c = K := ⟨_, rfl⟩
    rw [hK] at HX ⊢
    obtain ⟨L, hL⟩ : ∃ L, Str l = L := ⟨_, rfl⟩
    rw [hL] at HX ⊢
    clear h hM hc hcur hK hL
    generalize c.toNat = cn at *
    go_enter Tryd.func104, Tryd.ntmps104
    go_wp2_with fail
    go_quiet (first | exact HM.out _ | exact HX.out _)
    go_wp2
    go_ret
    exact ⟨by first | rfl | (simp; done), _, rfl⟩
theorem on_q (l : List UInt8) (hsz : s.size ≤ 1000000) (h : Rr w0 W p s A st) (n : Nat) : Calls Tryd.prog 104 #[.pointer (some ⟨p, 0, none⟩), .string (Str l)] (W.drewN n) fun r w' => r = .returned (.bool (on s.data.toList st l)) ∧ ∃ m, w' = W.drewN m := by
  refine (on_c l hsz (h.drewN n)).mono ?_
  rintro r w' ⟨h1, m, h2⟩
  exact ⟨h1, n + m, by rw [h2, World.drewN_drewN]⟩
set_option maxRecDepth 100000 in
set_option maxHeartbeats 2000000 in
theorem take_c (c : UInt8) (hsz : s.size ≤ 1000000) (h : Rr w0 W p s A st) : Calls Tryd.prog 74 #[.pointer (some ⟨p, 0, none⟩), .string (Str [c])] W fun r w' => r = .returned (.bool (on s.data.toList st [c])) ∧ Rr w0 w' p s A (takeS s.data.toList st c) ∧ Mod [p] W w' := by
  have HO := Lib.hid (on_c [c] hsz h)
  have H := Lib.hid h
  obtain ⟨O, hO⟩ : ∃ O, on s.data.toList st [c] = O := ⟨_, rfl⟩
  unfold takeS
  rw [hO] at HO ⊢
  obtain ⟨L, hL⟩ : ∃ L, Str [c] = L := ⟨_, rfl⟩
  rw [hL] at HO ⊢
  cases O with
  | false =>
    clear h hO hL
    go_enter Tryd.func74, Tryd.ntmps74
    go_wp2_with fail
    refine HO.out.mono ?_
    rintro _ w1 ⟨rfl, n, rfl⟩
    go_wp2
    go_ret
    exact ⟨rfl, H.out.drewN n, (Mod.refl _ _).drewN n⟩
  | true =>
    have hlt : st.pos < s.size := by rw [size_list]; exact (on_lt hO).2
    have hws : IntKind.i64.wrap ((st.pos : Int) + 1) = ((st.pos + 1 : Nat) : Int) := by rw [IntKind.wrap_i64]; omega
    clear h hO hL
    go_enter Tryd.func74, Tryd.ntmps74
    go_wp2_with fail
    refine HO.out.mono ?_
    rintro _ w1 ⟨rfl, n, rfl⟩
    obtain ⟨k0, k1, k2, f1, f2⟩ := (H.out.drewN n).cells
    have h2 := (H.out.drewN n).setPos (st.pos + 1)
    have H2 := Lib.hid (And.intro h2.1 (((Mod.refl [p] W).drewN n).trans h2.2 (fun x hx => .inl hx)))
    clear h2
    go_wp2
    go_ret
    exact ⟨rfl, H2.out⟩
end Rx
end Go.Proofs.YtoeeddfinmfnoaaDoor
