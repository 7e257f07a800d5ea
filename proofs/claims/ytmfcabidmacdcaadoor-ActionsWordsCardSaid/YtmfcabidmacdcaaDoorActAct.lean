/- The walk of package actions' reader: an action, path by path. Condition: the sentinels read as laid. (Printed by gen_act.py.) -/
import Derived.Test.YtmfcabidmacdcaaDoorActRead
import Derived.Test.YtmfcabidmacdcaaDoorRetCell
namespace Go.Proofs.YtmfcabidmacdcaaDoor
open Go Go.RowKit Kt Sp
namespace Ac
variable {w W W' : World} {p b o i : Nat} {ws : List (List UInt8)} {A : Nat → Addr}
/-- An action in a variable at block r. -/
def Sb (W : World) (r : Nat) (e c : List UInt8) : Prop := W.heap[r]? = some (.cells #[.string (Str e), .string (Str c)] 48 (0, 0))
theorem Sb.mod {S : List Nat} {r : Nat} {e c : List UInt8} (h : Sb W r e c) (hM : Mod S W W') (hr : r ∉ S) : Sb W' r e c := (hM.block r (block_lt h) hr).trans h
theorem Sb.cells {r : Nat} {e c : List UInt8} (h : Sb W r e c) : W.cell? ⟨r, 0, none⟩ = some (.string (Str e)) ∧ W.cell? ⟨r, 1, none⟩ = some (.string (Str c)) ∧ W.frozen? ⟨r, 0, none⟩ = false ∧ W.frozen? ⟨r, 1, none⟩ = false :=
  ⟨cell_block h 0, cell_block h 1, frozen_block h 0, frozen_block h 1⟩
theorem Sb.set0 {r : Nat} {e c : List UInt8} (h : Sb W r e c) (x : List UInt8) : Sb (W.setCell ⟨r, 0, none⟩ (.string (Str x))) r x c := block_setCell h _
theorem Sb.set1 {r : Nat} {e c : List UInt8} (h : Sb W r e c) (x : List UInt8) : Sb (W.setCell ⟨r, 1, none⟩ (.string (Str x))) r e x := block_setCell h _
theorem Sb.other {r q : Nat} {e c : List UInt8} (h : Sb W r e c) (hq : r ≠ q) (n : Nat) (v : Value) : Sb (W.setCell ⟨q, n, none⟩ v) r e c := (block_setOther hq v).trans h
theorem Rq.other {q : Nat} (h : Rq w W p b o ws i) (hq : p ≠ q) (hb : b ≠ q) (hl : w.heap.size ≤ q) (n : Nat) (v : Value) : Rq w (W.setCell ⟨q, n, none⟩ v) p b o ws i :=
  ⟨(block_setOther hq v).trans h.hp, h.rd.mod ((Mod.refl [q] W).setCell (p := ⟨q, n, none⟩) (.inl (by simp)) v) (fun a ha => by cases ha; simpa using hb), h.ne, h.B.setCell (p := ⟨q, n, none⟩) hl v, h.l, h.hi⟩
/-- All that the walk holds: the reader, the result's variable, the action's variable, both new since W. -/
structure Aq (w W0 W : World) (p b o : Nat) (ws : List (List UInt8)) (i r a : Nat) (e c e1 c1 : List UInt8) : Prop where
  R : Rq w W p b o ws i
  S0 : Sb W r e c
  S1 : Sb W a e1 c1
  M : Mod [p] W0 W
  pr : p ≠ r
  pa : p ≠ a
  br : b ≠ r
  ba : b ≠ a
  ar : a ≠ r
  lr : W0.heap.size ≤ r
  la : W0.heap.size ≤ a
  B0 : w.heap.size ≤ W0.heap.size
variable {W0 W1 : World} {r a o' i' : Nat} {e c e1 c1 : List UInt8}
theorem Aq.take (h : Aq w W0 W p b o ws i r a e c e1 c1) {ws' : List (List UInt8)} (hR : Rq w W1 p b o' ws' i') (hM : Mod [p] W W1) : Aq w W0 W1 p b o' ws' i' r a e c e1 c1 :=
  ⟨hR, h.S0.mod hM (by simpa using h.pr.symm), h.S1.mod hM (by simpa using h.pa.symm), h.M.trans hM (by simp), h.pr, h.pa, h.br, h.ba, h.ar, h.lr, h.la, h.B0⟩
theorem Aq.seta0 (h : Aq w W0 W p b o ws i r a e c e1 c1) (x : List UInt8) : Aq w W0 (W.setCell ⟨a, 0, none⟩ (.string (Str x))) p b o ws i r a e c x c1 :=
  ⟨h.R.other h.pa h.ba (Nat.le_trans h.B0 h.la) _ _, h.S0.other h.ar.symm _ _, h.S1.set0 x, h.M.setCell (.inr h.la) _, h.pr, h.pa, h.br, h.ba, h.ar, h.lr, h.la, h.B0⟩
theorem Aq.seta1 (h : Aq w W0 W p b o ws i r a e c e1 c1) (x : List UInt8) : Aq w W0 (W.setCell ⟨a, 1, none⟩ (.string (Str x))) p b o ws i r a e c e1 x :=
  ⟨h.R.other h.pa h.ba (Nat.le_trans h.B0 h.la) _ _, h.S0.other h.ar.symm _ _, h.S1.set1 x, h.M.setCell (.inr h.la) _, h.pr, h.pa, h.br, h.ba, h.ar, h.lr, h.la, h.B0⟩
theorem Aq.set (h : Aq w W0 W p b o ws i r a e c e1 c1) (x y : List UInt8) : Aq w W0 ((W.setCell ⟨r, 0, none⟩ (.string (Str x))).setCell ⟨r, 1, none⟩ (.string (Str y))) p b o ws i r a x y e1 c1 :=
  ⟨(h.R.other h.pr h.br (Nat.le_trans h.B0 h.lr) _ _).other h.pr h.br (Nat.le_trans h.B0 h.lr) _ _, (h.S0.set0 x).set1 y, (h.S1.other h.ar _ _).other h.ar _ _, (h.M.setCell (p := ⟨r, 0, none⟩) (.inr h.lr) _).setCell (p := ⟨r, 1, none⟩) (.inr h.lr) _, h.pr, h.pa, h.br, h.ba, h.ar, h.lr, h.la, h.B0⟩
theorem Aq.drew (h : Aq w W0 W p b o ws i r a e c e1 c1) : Aq w W0 W.drew p b o ws i r a e c e1 c1 :=
  ⟨h.R.below (Below.refl _ _).drew, h.S0, h.S1, h.M.drew, h.pr, h.pa, h.br, h.ba, h.ar, h.lr, h.la, h.B0⟩
theorem Aq.start (h : Rq w W p b o ws i) (hb : b < W.heap.size) : Aq w W ((W.alloc (.cells #[.string ⟨#[]⟩, .string ⟨#[]⟩] 48)).alloc (.cells #[.string ⟨#[]⟩, .string ⟨#[]⟩] 48)) p b o ws i W.heap.size (W.heap.size + 1) [] [] [] [] := by
  have b1 := (Below.refl W.heap.size W).alloc (Nat.le_refl _) (.cells #[.string ⟨#[]⟩, .string ⟨#[]⟩] 48)
  have b2 := b1.alloc b1.size (.cells #[.string ⟨#[]⟩, .string ⟨#[]⟩] 48)
  have hp := block_lt h.hp
  refine ⟨h.below b2, ?_, ?_, Mod.of_below b2 _, by omega, by omega, by omega, by omega, by omega, Nat.le_refl _, by omega, h.B.size⟩
  · exact block_alloc (heap_alloc_new W (.cells #[.string ⟨#[]⟩, .string ⟨#[]⟩] 48))
  · have := heap_alloc_new (W.alloc (.cells #[.string ⟨#[]⟩, .string ⟨#[]⟩] 48)) (.cells #[.string ⟨#[]⟩, .string ⟨#[]⟩] 48)
    rw [World.size_alloc] at this
    exact this
theorem Rq.atI {j : Nat} (h : Rq w W p b o ws i) (hi : i = j) : Rq w W p b o ws j := hi ▸ h
theorem skip_ne : skipW ≠ emitW := by decide
theorem act_none {v : List UInt8} {r : List (List UInt8)} (h0 : v ≠ emitW) (h1 : v ≠ skipW) : act (v :: r) = (([], []), 0, 4) := by simp [act, h0, h1]
theorem act_bad {n : List UInt8} {r : List (List UInt8)} (h : nm n = false) : act (emitW :: n :: r) = (([], []), 5, 5) := by simp [act, h]
theorem act_emit {n : List UInt8} {r : List (List UInt8)} (h : nm n = true) : act (emitW :: n :: r) = act2 n (5 + stp n r) r := by simp [act, h]
theorem act_skip {r : List (List UInt8)} : act (skipW :: r) = act2 [] (stp skipW r) r := by simp [act, skip_ne]
theorem act2_end {e : List UInt8} {k : Nat} : act2 e k [] = ((e, []), k, 0) := rfl
theorem act2_x {e v : List UInt8} {k : Nat} {r : List (List UInt8)} (h : v ≠ beginW) : act2 e k (v :: r) = (([], []), k, 4) := by simp [act2, h]
theorem act2_none {e : List UInt8} {k : Nat} : act2 e k [beginW] = (([], []), k + 5, 2) := rfl
theorem act2_bad {e n : List UInt8} {k : Nat} {r : List (List UInt8)} (h : nm n = false) : act2 e k (beginW :: n :: r) = (([], []), k + 6, 5) := by simp [act2, h]
theorem act2_name {e n : List UInt8} {k : Nat} (h : nm n = true) : act2 e k [beginW, n] = ((e, n), k + 6 + n.length, 0) := by simp [act2, h]
theorem act2_more {e n v : List UInt8} {k : Nat} {r : List (List UInt8)} (h : nm n = true) : act2 e k (beginW :: n :: v :: r) = (([], []), k + 6 + n.length + 1, 3) := by simp [act2, h]
/-- What the reader answers. -/
def acP (A : Nat → Addr) (w W : World) (p b : Nat) (x : (List UInt8 × List UInt8) × Nat × Nat) (e : Ending) (w' : World) : Prop :=
  e = .returned (.tuple #[.agg #[.string (Str x.1.1), .string (Str x.1.2)], eva A x.2.2]) ∧ (∃ o' ws', Rq w w' p b o' ws' x.2.1) ∧ Mod [p] W w'
theorem eq_yes (s : List UInt8) : ((Str s).toList == s) = true := by rw [Str_list]; simp
theorem eq_no {s t : List UInt8} (h : s ≠ t) : ((Str s).toList == t) = false := by rw [Str_list]; simpa using h

set_option maxHeartbeats 4000000 in
set_option maxRecDepth 100000 in
theorem ac_bad {v0 : List UInt8} {r : List (List UInt8)} (h0 : v0 ≠ emitW) (h1 : v0 ≠ skipW) (h : Rq w W p b o (v0 :: r) 0) (hb : b < W.heap.size) (hs : Sent 254 w A acs) : Calls Tryd.prog 66 #[.pointer (some ⟨p, 0, none⟩)] W (acP A w W p b (act (v0 :: r))) := by
  have hq := Aq.start h hb
  have hact : act (v0 :: r) = (([], []), 0, 4) := by exact act_none h0 h1
  rw [hact]
  clear hact
  obtain ⟨W1, hW1⟩ : ∃ W1, ((W.alloc (.cells #[.string ⟨#[]⟩, .string ⟨#[]⟩] 48)).alloc (.cells #[.string ⟨#[]⟩, .string ⟨#[]⟩] 48)) = W1 := ⟨_, rfl⟩
  rw [hW1] at hq
  have HW1 := Lib.hid hW1
  have HQ := Lib.hid hq
  have HS := Lib.hid hs
  have hlb := block_lt h.hp
  have lErrForm : 3 ≠ W.heap.size := Nat.ne_of_lt (lt_of_cell (p := ⟨3, 0, none⟩) ((hs.keep h.B).cell 3 (by simp [acs])))
  have lErrLong : 2 ≠ W.heap.size := Nat.ne_of_lt (lt_of_cell (p := ⟨2, 0, none⟩) ((hs.keep h.B).cell 2 (by simp [acs])))
  have Hh0 := Lib.hid h0
  have Hh1 := Lib.hid h1
  clear hW1 hq hs h hb h0 h1
  go_enter Tryd.func66, Tryd.ntmps66
  go_wp2_with fail
  rw [HW1.out]
  refine (next_yes HQ.out.R).mono ?_
  rintro e w1 ⟨rfl, rfl⟩
  have qemit := eq_no Hh0.out
  have qskip := eq_no Hh1.out
  simp only [emitW] at qemit
  simp only [skipW] at qskip

  go_wp2_with fail
  clear qemit
  clear qskip
  obtain ⟨z0, z1, d0, d1⟩ := HQ.out.S0.cells
  have e4 := (HS.out.keep HQ.out.R.B).cell 3 (by simp [acs])
  have HQ := Lib.hid (HQ.out.set [] [])
  go_region
  all_goals
    go_wp2
    ((try simp only [Exit.inBlock, Exit.then]); refine bodyPost_ret (Kt.results_cell2_row rfl _ _ (W.heap.size) 48 _ (0, 0) _ rfl (HQ.out.S0) Tryd.underlying48 rfl ?hi1) rfl ?_; (case hi1 => kernel_rfl))
    exact ⟨rfl, ⟨_, _, by first | exact HQ.out.R.atI (by first | (dsimp only; done) | (dsimp only; omega)) | exact (HQ.out.R.below (Below.refl _ _).drew).atI (by first | (dsimp only; done) | (dsimp only; omega))⟩, by first | exact HQ.out.M | exact HQ.out.M.drew⟩
set_option maxHeartbeats 4000000 in
set_option maxRecDepth 100000 in
theorem ac_emit_none  (h : Rq w W p b o (emitW :: []) 0) (hb : b < W.heap.size) (hs : Sent 254 w A acs) : Calls Tryd.prog 66 #[.pointer (some ⟨p, 0, none⟩)] W (acP A w W p b (act (emitW :: []))) := by
  have hq := Aq.start h hb
  have hact : act (emitW :: []) = (([], []), 4, 2) := by rfl
  rw [hact]
  clear hact
  obtain ⟨W1, hW1⟩ : ∃ W1, ((W.alloc (.cells #[.string ⟨#[]⟩, .string ⟨#[]⟩] 48)).alloc (.cells #[.string ⟨#[]⟩, .string ⟨#[]⟩] 48)) = W1 := ⟨_, rfl⟩
  rw [hW1] at hq
  have HW1 := Lib.hid hW1
  have HQ := Lib.hid hq
  have HS := Lib.hid hs
  have hlb := block_lt h.hp
  have lErrForm : 3 ≠ W.heap.size := Nat.ne_of_lt (lt_of_cell (p := ⟨3, 0, none⟩) ((hs.keep h.B).cell 3 (by simp [acs])))
  have lErrLong : 2 ≠ W.heap.size := Nat.ne_of_lt (lt_of_cell (p := ⟨2, 0, none⟩) ((hs.keep h.B).cell 2 (by simp [acs])))
  clear hW1 hq hs h hb
  go_enter Tryd.func66, Tryd.ntmps66
  go_wp2_with fail
  rw [HW1.out]
  refine (next_yes HQ.out.R).mono ?_
  rintro e w1 ⟨rfl, rfl⟩
  have qemit := eq_yes emitW
  simp only [emitW] at qemit
  try simp only [emitW]
  go_wp2_with fail
  refine (take_c HQ.out.R).mono ?_
  rintro e w2 ⟨rfl, o2, R2, M2⟩
  have HQ := Lib.hid (HQ.out.take R2 M2)
  clear R2 M2
  go_wp2_with fail
  clear qemit
  refine (name_none HQ.out.R (HS.out)).mono ?_
  rintro e w2 ⟨rfl, R2, M2⟩
  have hq2 := HQ.out.take R2 M2
  obtain ⟨k0, k1, f0, f1⟩ := hq2.S1.cells
  have HQ := Lib.hid (hq2.seta0 [])
  clear hq2 R2 M2
  obtain ⟨z0, z1, d0, d1⟩ := HQ.out.S0.cells
  simp only [show eva A 2 = .iface 254 (.pointer (some (A 1))) from rfl, show eva A 5 = .iface 254 (.pointer (some (A 4))) from rfl]
  go_wp2
  have HQ := Lib.hid (HQ.out.set [] [])
  ((try simp only [Exit.inBlock, Exit.then]); refine bodyPost_ret (Kt.results_cell2_row rfl _ _ (W.heap.size) 48 _ (0, 0) _ rfl (HQ.out.S0) Tryd.underlying48 rfl ?hi2) rfl ?_; (case hi2 => kernel_rfl))
  exact ⟨rfl, ⟨_, _, by first | exact HQ.out.R.atI (by have e0 : stp emitW ([]) = 4 := rfl; first | (dsimp only; done) | (dsimp only; omega)) | exact (HQ.out.R.below (Below.refl _ _).drew).atI (by have e0 : stp emitW ([]) = 4 := rfl; first | (dsimp only; done) | (dsimp only; omega))⟩, by first | exact HQ.out.M | exact HQ.out.M.drew⟩
set_option maxHeartbeats 4000000 in
set_option maxRecDepth 100000 in
theorem ac_emit_badname {n0 : List UInt8} {r : List (List UInt8)} (g0 : nm n0 = false) (h : Rq w W p b o (emitW :: n0 :: r) 0) (hb : b < W.heap.size) (hs : Sent 254 w A acs) : Calls Tryd.prog 66 #[.pointer (some ⟨p, 0, none⟩)] W (acP A w W p b (act (emitW :: n0 :: r))) := by
  have hq := Aq.start h hb
  have hact : act (emitW :: n0 :: r) = (([], []), 5, 5) := by exact act_bad g0
  rw [hact]
  clear hact
  obtain ⟨W1, hW1⟩ : ∃ W1, ((W.alloc (.cells #[.string ⟨#[]⟩, .string ⟨#[]⟩] 48)).alloc (.cells #[.string ⟨#[]⟩, .string ⟨#[]⟩] 48)) = W1 := ⟨_, rfl⟩
  rw [hW1] at hq
  have HW1 := Lib.hid hW1
  have HQ := Lib.hid hq
  have HS := Lib.hid hs
  have hlb := block_lt h.hp
  have lErrForm : 3 ≠ W.heap.size := Nat.ne_of_lt (lt_of_cell (p := ⟨3, 0, none⟩) ((hs.keep h.B).cell 3 (by simp [acs])))
  have lErrLong : 2 ≠ W.heap.size := Nat.ne_of_lt (lt_of_cell (p := ⟨2, 0, none⟩) ((hs.keep h.B).cell 2 (by simp [acs])))
  have Hg0 := Lib.hid g0
  clear hW1 hq hs h hb g0
  go_enter Tryd.func66, Tryd.ntmps66
  go_wp2_with fail
  rw [HW1.out]
  refine (next_yes HQ.out.R).mono ?_
  rintro e w1 ⟨rfl, rfl⟩
  have qemit := eq_yes emitW
  simp only [emitW] at qemit
  try simp only [emitW]
  go_wp2_with fail
  refine (take_c HQ.out.R).mono ?_
  rintro e w2 ⟨rfl, o2, R2, M2⟩
  have HQ := Lib.hid (HQ.out.take R2 M2)
  clear R2 M2
  go_wp2_with fail
  clear qemit
  refine (name_bad Hg0.out HQ.out.R (HS.out)).mono ?_
  rintro e w2 ⟨rfl, R2, M2⟩
  have hq2 := HQ.out.take R2 M2
  obtain ⟨k0, k1, f0, f1⟩ := hq2.S1.cells
  have HQ := Lib.hid (hq2.seta0 [])
  clear hq2 R2 M2
  obtain ⟨z0, z1, d0, d1⟩ := HQ.out.S0.cells
  simp only [show eva A 2 = .iface 254 (.pointer (some (A 1))) from rfl, show eva A 5 = .iface 254 (.pointer (some (A 4))) from rfl]
  go_wp2
  have HQ := Lib.hid (HQ.out.set [] [])
  ((try simp only [Exit.inBlock, Exit.then]); refine bodyPost_ret (Kt.results_cell2_row rfl _ _ (W.heap.size) 48 _ (0, 0) _ rfl (HQ.out.S0) Tryd.underlying48 rfl ?hi3) rfl ?_; (case hi3 => kernel_rfl))
  exact ⟨rfl, ⟨_, _, by first | exact HQ.out.R.atI (by have e0 : stp emitW (n0 :: r) = 5 := rfl; first | (dsimp only; done) | (dsimp only; omega)) | exact (HQ.out.R.below (Below.refl _ _).drew).atI (by have e0 : stp emitW (n0 :: r) = 5 := rfl; first | (dsimp only; done) | (dsimp only; omega))⟩, by first | exact HQ.out.M | exact HQ.out.M.drew⟩
set_option maxHeartbeats 4000000 in
set_option maxRecDepth 100000 in
theorem ac_emit_name_end {n0 : List UInt8} (g0 : nm n0 = true) (h : Rq w W p b o (emitW :: n0 :: []) 0) (hb : b < W.heap.size) (hs : Sent 254 w A acs) : Calls Tryd.prog 66 #[.pointer (some ⟨p, 0, none⟩)] W (acP A w W p b (act (emitW :: n0 :: []))) := by
  have hq := Aq.start h hb
  have hact : act (emitW :: n0 :: []) = ((n0, []), 5 + stp n0 ([]), 0) := by rw [act_emit g0, act2_end]
  rw [hact]
  clear hact
  obtain ⟨W1, hW1⟩ : ∃ W1, ((W.alloc (.cells #[.string ⟨#[]⟩, .string ⟨#[]⟩] 48)).alloc (.cells #[.string ⟨#[]⟩, .string ⟨#[]⟩] 48)) = W1 := ⟨_, rfl⟩
  rw [hW1] at hq
  have HW1 := Lib.hid hW1
  have HQ := Lib.hid hq
  have HS := Lib.hid hs
  have hlb := block_lt h.hp
  have lErrForm : 3 ≠ W.heap.size := Nat.ne_of_lt (lt_of_cell (p := ⟨3, 0, none⟩) ((hs.keep h.B).cell 3 (by simp [acs])))
  have lErrLong : 2 ≠ W.heap.size := Nat.ne_of_lt (lt_of_cell (p := ⟨2, 0, none⟩) ((hs.keep h.B).cell 2 (by simp [acs])))
  have Hg0 := Lib.hid g0
  clear hW1 hq hs h hb g0
  go_enter Tryd.func66, Tryd.ntmps66
  go_wp2_with fail
  rw [HW1.out]
  refine (next_yes HQ.out.R).mono ?_
  rintro e w1 ⟨rfl, rfl⟩
  have qemit := eq_yes emitW
  simp only [emitW] at qemit
  try simp only [emitW]
  go_wp2_with fail
  refine (take_c HQ.out.R).mono ?_
  rintro e w2 ⟨rfl, o2, R2, M2⟩
  have HQ := Lib.hid (HQ.out.take R2 M2)
  clear R2 M2
  go_wp2_with fail
  clear qemit
  refine (name_good Hg0.out HQ.out.R).mono ?_
  rintro e w2 ⟨rfl, o2, R2, M2⟩
  have hq2 := HQ.out.take R2 M2
  obtain ⟨k0, k1, f0, f1⟩ := hq2.S1.cells
  have HQ := Lib.hid (hq2.seta0 n0)
  clear hq2 R2 M2
  go_wp2_with fail
  clear k0 k1 f0 f1
  refine (next_no HQ.out.R).mono ?_
  rintro e w1 ⟨rfl, rfl⟩
  obtain ⟨z0, z1, d0, d1⟩ := HQ.out.S0.cells
  obtain ⟨k0, k1, f0, f1⟩ := HQ.out.S1.cells
  have HQ := Lib.hid (HQ.out.set n0 [])
  go_wp2
  ((try simp only [Exit.inBlock, Exit.then]); refine bodyPost_ret (Kt.results_cell2_row rfl _ _ (W.heap.size) 48 _ (0, 0) _ rfl (HQ.out.S0) Tryd.underlying48 rfl ?hi4) rfl ?_; (case hi4 => kernel_rfl))
  exact ⟨rfl, ⟨_, _, by first | exact HQ.out.R.atI (by have e0 : stp emitW (n0 :: []) = 5 := rfl; have e1 : stp n0 ([]) = n0.length := rfl; first | (dsimp only; done) | (dsimp only; omega)) | exact (HQ.out.R.below (Below.refl _ _).drew).atI (by have e0 : stp emitW (n0 :: []) = 5 := rfl; have e1 : stp n0 ([]) = n0.length := rfl; first | (dsimp only; done) | (dsimp only; omega))⟩, by first | exact HQ.out.M | exact HQ.out.M.drew⟩
set_option maxHeartbeats 4000000 in
set_option maxRecDepth 100000 in
theorem ac_emit_name_x {n0 v1 : List UInt8} {r : List (List UInt8)} (g0 : nm n0 = true) (h2 : v1 ≠ beginW) (h : Rq w W p b o (emitW :: n0 :: v1 :: r) 0) (hb : b < W.heap.size) (hs : Sent 254 w A acs) : Calls Tryd.prog 66 #[.pointer (some ⟨p, 0, none⟩)] W (acP A w W p b (act (emitW :: n0 :: v1 :: r))) := by
  have hq := Aq.start h hb
  have hact : act (emitW :: n0 :: v1 :: r) = (([], []), 5 + stp n0 (v1 :: r), 4) := by rw [act_emit g0, act2_x h2]
  rw [hact]
  clear hact
  obtain ⟨W1, hW1⟩ : ∃ W1, ((W.alloc (.cells #[.string ⟨#[]⟩, .string ⟨#[]⟩] 48)).alloc (.cells #[.string ⟨#[]⟩, .string ⟨#[]⟩] 48)) = W1 := ⟨_, rfl⟩
  rw [hW1] at hq
  have HW1 := Lib.hid hW1
  have HQ := Lib.hid hq
  have HS := Lib.hid hs
  have hlb := block_lt h.hp
  have lErrForm : 3 ≠ W.heap.size := Nat.ne_of_lt (lt_of_cell (p := ⟨3, 0, none⟩) ((hs.keep h.B).cell 3 (by simp [acs])))
  have lErrLong : 2 ≠ W.heap.size := Nat.ne_of_lt (lt_of_cell (p := ⟨2, 0, none⟩) ((hs.keep h.B).cell 2 (by simp [acs])))
  have Hg0 := Lib.hid g0
  have Hh2 := Lib.hid h2
  clear hW1 hq hs h hb g0 h2
  go_enter Tryd.func66, Tryd.ntmps66
  go_wp2_with fail
  rw [HW1.out]
  refine (next_yes HQ.out.R).mono ?_
  rintro e w1 ⟨rfl, rfl⟩
  have qemit := eq_yes emitW
  simp only [emitW] at qemit
  try simp only [emitW]
  go_wp2_with fail
  refine (take_c HQ.out.R).mono ?_
  rintro e w2 ⟨rfl, o2, R2, M2⟩
  have HQ := Lib.hid (HQ.out.take R2 M2)
  clear R2 M2
  go_wp2_with fail
  clear qemit
  refine (name_good Hg0.out HQ.out.R).mono ?_
  rintro e w2 ⟨rfl, o2, R2, M2⟩
  have hq2 := HQ.out.take R2 M2
  obtain ⟨k0, k1, f0, f1⟩ := hq2.S1.cells
  have HQ := Lib.hid (hq2.seta0 n0)
  clear hq2 R2 M2
  go_wp2_with fail
  clear k0 k1 f0 f1
  refine (next_yes HQ.out.R).mono ?_
  rintro e w1 ⟨rfl, rfl⟩
  have qbegin := eq_no Hh2.out
  simp only [beginW] at qbegin

  go_wp2_with fail
  clear qbegin
  obtain ⟨z0, z1, d0, d1⟩ := HQ.out.S0.cells
  have e4 := (HS.out.keep HQ.out.R.B).cell 3 (by simp [acs])
  have HQ := Lib.hid (HQ.out.set [] [])
  go_region
  all_goals
    go_wp2
    ((try simp only [Exit.inBlock, Exit.then]); refine bodyPost_ret (Kt.results_cell2_row rfl _ _ (W.heap.size) 48 _ (0, 0) _ rfl (HQ.out.S0) Tryd.underlying48 rfl ?hi5) rfl ?_; (case hi5 => kernel_rfl))
    exact ⟨rfl, ⟨_, _, by first | exact HQ.out.R.atI (by have e0 : stp emitW (n0 :: v1 :: r) = 5 := rfl; have e1 : stp n0 (v1 :: r) = n0.length + 1 := rfl; first | (dsimp only; done) | (dsimp only; omega)) | exact (HQ.out.R.below (Below.refl _ _).drew).atI (by have e0 : stp emitW (n0 :: v1 :: r) = 5 := rfl; have e1 : stp n0 (v1 :: r) = n0.length + 1 := rfl; first | (dsimp only; done) | (dsimp only; omega))⟩, by first | exact HQ.out.M | exact HQ.out.M.drew⟩
set_option maxHeartbeats 4000000 in
set_option maxRecDepth 100000 in
theorem ac_emit_name_begin_none {n0 : List UInt8} (g0 : nm n0 = true) (h : Rq w W p b o (emitW :: n0 :: beginW :: []) 0) (hb : b < W.heap.size) (hs : Sent 254 w A acs) : Calls Tryd.prog 66 #[.pointer (some ⟨p, 0, none⟩)] W (acP A w W p b (act (emitW :: n0 :: beginW :: []))) := by
  have hq := Aq.start h hb
  have hact : act (emitW :: n0 :: beginW :: []) = (([], []), 5 + stp n0 (beginW :: []) + 5, 2) := by rw [act_emit g0, act2_none]
  rw [hact]
  clear hact
  obtain ⟨W1, hW1⟩ : ∃ W1, ((W.alloc (.cells #[.string ⟨#[]⟩, .string ⟨#[]⟩] 48)).alloc (.cells #[.string ⟨#[]⟩, .string ⟨#[]⟩] 48)) = W1 := ⟨_, rfl⟩
  rw [hW1] at hq
  have HW1 := Lib.hid hW1
  have HQ := Lib.hid hq
  have HS := Lib.hid hs
  have hlb := block_lt h.hp
  have lErrForm : 3 ≠ W.heap.size := Nat.ne_of_lt (lt_of_cell (p := ⟨3, 0, none⟩) ((hs.keep h.B).cell 3 (by simp [acs])))
  have lErrLong : 2 ≠ W.heap.size := Nat.ne_of_lt (lt_of_cell (p := ⟨2, 0, none⟩) ((hs.keep h.B).cell 2 (by simp [acs])))
  have Hg0 := Lib.hid g0
  clear hW1 hq hs h hb g0
  go_enter Tryd.func66, Tryd.ntmps66
  go_wp2_with fail
  rw [HW1.out]
  refine (next_yes HQ.out.R).mono ?_
  rintro e w1 ⟨rfl, rfl⟩
  have qemit := eq_yes emitW
  simp only [emitW] at qemit
  try simp only [emitW]
  go_wp2_with fail
  refine (take_c HQ.out.R).mono ?_
  rintro e w2 ⟨rfl, o2, R2, M2⟩
  have HQ := Lib.hid (HQ.out.take R2 M2)
  clear R2 M2
  go_wp2_with fail
  clear qemit
  refine (name_good Hg0.out HQ.out.R).mono ?_
  rintro e w2 ⟨rfl, o2, R2, M2⟩
  have hq2 := HQ.out.take R2 M2
  obtain ⟨k0, k1, f0, f1⟩ := hq2.S1.cells
  have HQ := Lib.hid (hq2.seta0 n0)
  clear hq2 R2 M2
  go_wp2_with fail
  clear k0 k1 f0 f1
  refine (next_yes HQ.out.R).mono ?_
  rintro e w1 ⟨rfl, rfl⟩
  have qbegin := eq_yes beginW
  simp only [beginW] at qbegin
  try simp only [beginW]
  go_wp2_with fail
  clear qbegin
  refine (take_c HQ.out.R).mono ?_
  rintro e w2 ⟨rfl, o2, R2, M2⟩
  have HQ := Lib.hid (HQ.out.take R2 M2)
  clear R2 M2
  go_wp2_with fail
  refine (name_none HQ.out.R (HS.out)).mono ?_
  rintro e w2 ⟨rfl, R2, M2⟩
  have hq2 := HQ.out.take R2 M2
  obtain ⟨k0, k1, f0, f1⟩ := hq2.S1.cells
  have HQ := Lib.hid (hq2.seta1 [])
  clear hq2 R2 M2
  obtain ⟨z0, z1, d0, d1⟩ := HQ.out.S0.cells
  simp only [show eva A 2 = .iface 254 (.pointer (some (A 1))) from rfl, show eva A 5 = .iface 254 (.pointer (some (A 4))) from rfl]
  go_wp2
  have HQ := Lib.hid (HQ.out.set [] [])
  ((try simp only [Exit.inBlock, Exit.then]); refine bodyPost_ret (Kt.results_cell2_row rfl _ _ (W.heap.size) 48 _ (0, 0) _ rfl (HQ.out.S0) Tryd.underlying48 rfl ?hi6) rfl ?_; (case hi6 => kernel_rfl))
  exact ⟨rfl, ⟨_, _, by first | exact HQ.out.R.atI (by have e0 : stp emitW (n0 :: beginW :: []) = 5 := rfl; have e1 : stp n0 (beginW :: []) = n0.length + 1 := rfl; have e2 : stp beginW ([]) = 5 := rfl; first | (dsimp only; done) | (dsimp only; omega)) | exact (HQ.out.R.below (Below.refl _ _).drew).atI (by have e0 : stp emitW (n0 :: beginW :: []) = 5 := rfl; have e1 : stp n0 (beginW :: []) = n0.length + 1 := rfl; have e2 : stp beginW ([]) = 5 := rfl; first | (dsimp only; done) | (dsimp only; omega))⟩, by first | exact HQ.out.M | exact HQ.out.M.drew⟩
set_option maxHeartbeats 4000000 in
set_option maxRecDepth 100000 in
theorem ac_emit_name_begin_badname {n0 n1 : List UInt8} {r : List (List UInt8)} (g0 : nm n0 = true) (g1 : nm n1 = false) (h : Rq w W p b o (emitW :: n0 :: beginW :: n1 :: r) 0) (hb : b < W.heap.size) (hs : Sent 254 w A acs) : Calls Tryd.prog 66 #[.pointer (some ⟨p, 0, none⟩)] W (acP A w W p b (act (emitW :: n0 :: beginW :: n1 :: r))) := by
  have hq := Aq.start h hb
  have hact : act (emitW :: n0 :: beginW :: n1 :: r) = (([], []), 5 + stp n0 (beginW :: n1 :: r) + 6, 5) := by rw [act_emit g0, act2_bad g1]
  rw [hact]
  clear hact
  obtain ⟨W1, hW1⟩ : ∃ W1, ((W.alloc (.cells #[.string ⟨#[]⟩, .string ⟨#[]⟩] 48)).alloc (.cells #[.string ⟨#[]⟩, .string ⟨#[]⟩] 48)) = W1 := ⟨_, rfl⟩
  rw [hW1] at hq
  have HW1 := Lib.hid hW1
  have HQ := Lib.hid hq
  have HS := Lib.hid hs
  have hlb := block_lt h.hp
  have lErrForm : 3 ≠ W.heap.size := Nat.ne_of_lt (lt_of_cell (p := ⟨3, 0, none⟩) ((hs.keep h.B).cell 3 (by simp [acs])))
  have lErrLong : 2 ≠ W.heap.size := Nat.ne_of_lt (lt_of_cell (p := ⟨2, 0, none⟩) ((hs.keep h.B).cell 2 (by simp [acs])))
  have Hg0 := Lib.hid g0
  have Hg1 := Lib.hid g1
  clear hW1 hq hs h hb g0 g1
  go_enter Tryd.func66, Tryd.ntmps66
  go_wp2_with fail
  rw [HW1.out]
  refine (next_yes HQ.out.R).mono ?_
  rintro e w1 ⟨rfl, rfl⟩
  have qemit := eq_yes emitW
  simp only [emitW] at qemit
  try simp only [emitW]
  go_wp2_with fail
  refine (take_c HQ.out.R).mono ?_
  rintro e w2 ⟨rfl, o2, R2, M2⟩
  have HQ := Lib.hid (HQ.out.take R2 M2)
  clear R2 M2
  go_wp2_with fail
  clear qemit
  refine (name_good Hg0.out HQ.out.R).mono ?_
  rintro e w2 ⟨rfl, o2, R2, M2⟩
  have hq2 := HQ.out.take R2 M2
  obtain ⟨k0, k1, f0, f1⟩ := hq2.S1.cells
  have HQ := Lib.hid (hq2.seta0 n0)
  clear hq2 R2 M2
  go_wp2_with fail
  clear k0 k1 f0 f1
  refine (next_yes HQ.out.R).mono ?_
  rintro e w1 ⟨rfl, rfl⟩
  have qbegin := eq_yes beginW
  simp only [beginW] at qbegin
  try simp only [beginW]
  go_wp2_with fail
  clear qbegin
  refine (take_c HQ.out.R).mono ?_
  rintro e w2 ⟨rfl, o2, R2, M2⟩
  have HQ := Lib.hid (HQ.out.take R2 M2)
  clear R2 M2
  go_wp2_with fail
  refine (name_bad Hg1.out HQ.out.R (HS.out)).mono ?_
  rintro e w2 ⟨rfl, R2, M2⟩
  have hq2 := HQ.out.take R2 M2
  obtain ⟨k0, k1, f0, f1⟩ := hq2.S1.cells
  have HQ := Lib.hid (hq2.seta1 [])
  clear hq2 R2 M2
  obtain ⟨z0, z1, d0, d1⟩ := HQ.out.S0.cells
  simp only [show eva A 2 = .iface 254 (.pointer (some (A 1))) from rfl, show eva A 5 = .iface 254 (.pointer (some (A 4))) from rfl]
  go_wp2
  have HQ := Lib.hid (HQ.out.set [] [])
  ((try simp only [Exit.inBlock, Exit.then]); refine bodyPost_ret (Kt.results_cell2_row rfl _ _ (W.heap.size) 48 _ (0, 0) _ rfl (HQ.out.S0) Tryd.underlying48 rfl ?hi7) rfl ?_; (case hi7 => kernel_rfl))
  exact ⟨rfl, ⟨_, _, by first | exact HQ.out.R.atI (by have e0 : stp emitW (n0 :: beginW :: n1 :: r) = 5 := rfl; have e1 : stp n0 (beginW :: n1 :: r) = n0.length + 1 := rfl; have e2 : stp beginW (n1 :: r) = 6 := rfl; first | (dsimp only; done) | (dsimp only; omega)) | exact (HQ.out.R.below (Below.refl _ _).drew).atI (by have e0 : stp emitW (n0 :: beginW :: n1 :: r) = 5 := rfl; have e1 : stp n0 (beginW :: n1 :: r) = n0.length + 1 := rfl; have e2 : stp beginW (n1 :: r) = 6 := rfl; first | (dsimp only; done) | (dsimp only; omega))⟩, by first | exact HQ.out.M | exact HQ.out.M.drew⟩
set_option maxHeartbeats 4000000 in
set_option maxRecDepth 100000 in
theorem ac_emit_name_begin_name_end {n0 n1 : List UInt8} (g0 : nm n0 = true) (g1 : nm n1 = true) (h : Rq w W p b o (emitW :: n0 :: beginW :: n1 :: []) 0) (hb : b < W.heap.size) (hs : Sent 254 w A acs) : Calls Tryd.prog 66 #[.pointer (some ⟨p, 0, none⟩)] W (acP A w W p b (act (emitW :: n0 :: beginW :: n1 :: []))) := by
  have hq := Aq.start h hb
  have hact : act (emitW :: n0 :: beginW :: n1 :: []) = ((n0, n1), 5 + stp n0 (beginW :: n1 :: []) + 6 + n1.length, 0) := by rw [act_emit g0, act2_name g1]
  rw [hact]
  clear hact
  obtain ⟨W1, hW1⟩ : ∃ W1, ((W.alloc (.cells #[.string ⟨#[]⟩, .string ⟨#[]⟩] 48)).alloc (.cells #[.string ⟨#[]⟩, .string ⟨#[]⟩] 48)) = W1 := ⟨_, rfl⟩
  rw [hW1] at hq
  have HW1 := Lib.hid hW1
  have HQ := Lib.hid hq
  have HS := Lib.hid hs
  have hlb := block_lt h.hp
  have lErrForm : 3 ≠ W.heap.size := Nat.ne_of_lt (lt_of_cell (p := ⟨3, 0, none⟩) ((hs.keep h.B).cell 3 (by simp [acs])))
  have lErrLong : 2 ≠ W.heap.size := Nat.ne_of_lt (lt_of_cell (p := ⟨2, 0, none⟩) ((hs.keep h.B).cell 2 (by simp [acs])))
  have Hg0 := Lib.hid g0
  have Hg1 := Lib.hid g1
  clear hW1 hq hs h hb g0 g1
  go_enter Tryd.func66, Tryd.ntmps66
  go_wp2_with fail
  rw [HW1.out]
  refine (next_yes HQ.out.R).mono ?_
  rintro e w1 ⟨rfl, rfl⟩
  have qemit := eq_yes emitW
  simp only [emitW] at qemit
  try simp only [emitW]
  go_wp2_with fail
  refine (take_c HQ.out.R).mono ?_
  rintro e w2 ⟨rfl, o2, R2, M2⟩
  have HQ := Lib.hid (HQ.out.take R2 M2)
  clear R2 M2
  go_wp2_with fail
  clear qemit
  refine (name_good Hg0.out HQ.out.R).mono ?_
  rintro e w2 ⟨rfl, o2, R2, M2⟩
  have hq2 := HQ.out.take R2 M2
  obtain ⟨k0, k1, f0, f1⟩ := hq2.S1.cells
  have HQ := Lib.hid (hq2.seta0 n0)
  clear hq2 R2 M2
  go_wp2_with fail
  clear k0 k1 f0 f1
  refine (next_yes HQ.out.R).mono ?_
  rintro e w1 ⟨rfl, rfl⟩
  have qbegin := eq_yes beginW
  simp only [beginW] at qbegin
  try simp only [beginW]
  go_wp2_with fail
  clear qbegin
  refine (take_c HQ.out.R).mono ?_
  rintro e w2 ⟨rfl, o2, R2, M2⟩
  have HQ := Lib.hid (HQ.out.take R2 M2)
  clear R2 M2
  go_wp2_with fail
  refine (name_good Hg1.out HQ.out.R).mono ?_
  rintro e w2 ⟨rfl, o2, R2, M2⟩
  have hq2 := HQ.out.take R2 M2
  obtain ⟨k0, k1, f0, f1⟩ := hq2.S1.cells
  have HQ := Lib.hid (hq2.seta1 n1)
  clear hq2 R2 M2
  go_wp2_with fail
  clear k0 k1 f0 f1
  refine (next_no HQ.out.R).mono ?_
  rintro e w1 ⟨rfl, rfl⟩
  obtain ⟨z0, z1, d0, d1⟩ := HQ.out.S0.cells
  obtain ⟨k0, k1, f0, f1⟩ := HQ.out.S1.cells
  have HQ := Lib.hid (HQ.out.set n0 n1)
  go_wp2
  ((try simp only [Exit.inBlock, Exit.then]); refine bodyPost_ret (Kt.results_cell2_row rfl _ _ (W.heap.size) 48 _ (0, 0) _ rfl (HQ.out.S0) Tryd.underlying48 rfl ?hi8) rfl ?_; (case hi8 => kernel_rfl))
  exact ⟨rfl, ⟨_, _, by first | exact HQ.out.R.atI (by have e0 : stp emitW (n0 :: beginW :: n1 :: []) = 5 := rfl; have e1 : stp n0 (beginW :: n1 :: []) = n0.length + 1 := rfl; have e2 : stp beginW (n1 :: []) = 6 := rfl; have e3 : stp n1 ([]) = n1.length := rfl; first | (dsimp only; done) | (dsimp only; omega)) | exact (HQ.out.R.below (Below.refl _ _).drew).atI (by have e0 : stp emitW (n0 :: beginW :: n1 :: []) = 5 := rfl; have e1 : stp n0 (beginW :: n1 :: []) = n0.length + 1 := rfl; have e2 : stp beginW (n1 :: []) = 6 := rfl; have e3 : stp n1 ([]) = n1.length := rfl; first | (dsimp only; done) | (dsimp only; omega))⟩, by first | exact HQ.out.M | exact HQ.out.M.drew⟩
set_option maxHeartbeats 4000000 in
set_option maxRecDepth 100000 in
theorem ac_emit_name_begin_name_more {n0 n1 v2 : List UInt8} {r : List (List UInt8)} (g0 : nm n0 = true) (g1 : nm n1 = true) (h : Rq w W p b o (emitW :: n0 :: beginW :: n1 :: v2 :: r) 0) (hb : b < W.heap.size) (hs : Sent 254 w A acs) : Calls Tryd.prog 66 #[.pointer (some ⟨p, 0, none⟩)] W (acP A w W p b (act (emitW :: n0 :: beginW :: n1 :: v2 :: r))) := by
  have hq := Aq.start h hb
  have hact : act (emitW :: n0 :: beginW :: n1 :: v2 :: r) = (([], []), 5 + stp n0 (beginW :: n1 :: v2 :: r) + 6 + n1.length + 1, 3) := by rw [act_emit g0, act2_more g1]
  rw [hact]
  clear hact
  obtain ⟨W1, hW1⟩ : ∃ W1, ((W.alloc (.cells #[.string ⟨#[]⟩, .string ⟨#[]⟩] 48)).alloc (.cells #[.string ⟨#[]⟩, .string ⟨#[]⟩] 48)) = W1 := ⟨_, rfl⟩
  rw [hW1] at hq
  have HW1 := Lib.hid hW1
  have HQ := Lib.hid hq
  have HS := Lib.hid hs
  have hlb := block_lt h.hp
  have lErrForm : 3 ≠ W.heap.size := Nat.ne_of_lt (lt_of_cell (p := ⟨3, 0, none⟩) ((hs.keep h.B).cell 3 (by simp [acs])))
  have lErrLong : 2 ≠ W.heap.size := Nat.ne_of_lt (lt_of_cell (p := ⟨2, 0, none⟩) ((hs.keep h.B).cell 2 (by simp [acs])))
  have Hg0 := Lib.hid g0
  have Hg1 := Lib.hid g1
  clear hW1 hq hs h hb g0 g1
  go_enter Tryd.func66, Tryd.ntmps66
  go_wp2_with fail
  rw [HW1.out]
  refine (next_yes HQ.out.R).mono ?_
  rintro e w1 ⟨rfl, rfl⟩
  have qemit := eq_yes emitW
  simp only [emitW] at qemit
  try simp only [emitW]
  go_wp2_with fail
  refine (take_c HQ.out.R).mono ?_
  rintro e w2 ⟨rfl, o2, R2, M2⟩
  have HQ := Lib.hid (HQ.out.take R2 M2)
  clear R2 M2
  go_wp2_with fail
  clear qemit
  refine (name_good Hg0.out HQ.out.R).mono ?_
  rintro e w2 ⟨rfl, o2, R2, M2⟩
  have hq2 := HQ.out.take R2 M2
  obtain ⟨k0, k1, f0, f1⟩ := hq2.S1.cells
  have HQ := Lib.hid (hq2.seta0 n0)
  clear hq2 R2 M2
  go_wp2_with fail
  clear k0 k1 f0 f1
  refine (next_yes HQ.out.R).mono ?_
  rintro e w1 ⟨rfl, rfl⟩
  have qbegin := eq_yes beginW
  simp only [beginW] at qbegin
  try simp only [beginW]
  go_wp2_with fail
  clear qbegin
  refine (take_c HQ.out.R).mono ?_
  rintro e w2 ⟨rfl, o2, R2, M2⟩
  have HQ := Lib.hid (HQ.out.take R2 M2)
  clear R2 M2
  go_wp2_with fail
  refine (name_good Hg1.out HQ.out.R).mono ?_
  rintro e w2 ⟨rfl, o2, R2, M2⟩
  have hq2 := HQ.out.take R2 M2
  obtain ⟨k0, k1, f0, f1⟩ := hq2.S1.cells
  have HQ := Lib.hid (hq2.seta1 n1)
  clear hq2 R2 M2
  go_wp2_with fail
  clear k0 k1 f0 f1
  refine (next_yes HQ.out.R).mono ?_
  rintro e w1 ⟨rfl, rfl⟩
  go_wp2_with fail
  obtain ⟨z0, z1, d0, d1⟩ := HQ.out.S0.cells
  have e4 := (HS.out.keep HQ.out.R.B).cell 2 (by simp [acs])
  have HQ := Lib.hid (HQ.out.set [] [])
  go_region
  all_goals
    go_wp2
    ((try simp only [Exit.inBlock, Exit.then]); refine bodyPost_ret (Kt.results_cell2_row rfl _ _ (W.heap.size) 48 _ (0, 0) _ rfl (HQ.out.S0) Tryd.underlying48 rfl ?hi9) rfl ?_; (case hi9 => kernel_rfl))
    exact ⟨rfl, ⟨_, _, by first | exact HQ.out.R.atI (by have e0 : stp emitW (n0 :: beginW :: n1 :: v2 :: r) = 5 := rfl; have e1 : stp n0 (beginW :: n1 :: v2 :: r) = n0.length + 1 := rfl; have e2 : stp beginW (n1 :: v2 :: r) = 6 := rfl; have e3 : stp n1 (v2 :: r) = n1.length + 1 := rfl; first | (dsimp only; done) | (dsimp only; omega)) | exact (HQ.out.R.below (Below.refl _ _).drew).atI (by have e0 : stp emitW (n0 :: beginW :: n1 :: v2 :: r) = 5 := rfl; have e1 : stp n0 (beginW :: n1 :: v2 :: r) = n0.length + 1 := rfl; have e2 : stp beginW (n1 :: v2 :: r) = 6 := rfl; have e3 : stp n1 (v2 :: r) = n1.length + 1 := rfl; first | (dsimp only; done) | (dsimp only; omega))⟩, by first | exact HQ.out.M | exact HQ.out.M.drew⟩
set_option maxHeartbeats 4000000 in
set_option maxRecDepth 100000 in
theorem ac_skip_end  (h : Rq w W p b o (skipW :: []) 0) (hb : b < W.heap.size) (hs : Sent 254 w A acs) : Calls Tryd.prog 66 #[.pointer (some ⟨p, 0, none⟩)] W (acP A w W p b (act (skipW :: []))) := by
  have hq := Aq.start h hb
  have hact : act (skipW :: []) = (([], []), stp skipW ([]), 0) := by rw [act_skip, act2_end]
  rw [hact]
  clear hact
  obtain ⟨W1, hW1⟩ : ∃ W1, ((W.alloc (.cells #[.string ⟨#[]⟩, .string ⟨#[]⟩] 48)).alloc (.cells #[.string ⟨#[]⟩, .string ⟨#[]⟩] 48)) = W1 := ⟨_, rfl⟩
  rw [hW1] at hq
  have HW1 := Lib.hid hW1
  have HQ := Lib.hid hq
  have HS := Lib.hid hs
  have hlb := block_lt h.hp
  have lErrForm : 3 ≠ W.heap.size := Nat.ne_of_lt (lt_of_cell (p := ⟨3, 0, none⟩) ((hs.keep h.B).cell 3 (by simp [acs])))
  have lErrLong : 2 ≠ W.heap.size := Nat.ne_of_lt (lt_of_cell (p := ⟨2, 0, none⟩) ((hs.keep h.B).cell 2 (by simp [acs])))
  clear hW1 hq hs h hb
  go_enter Tryd.func66, Tryd.ntmps66
  go_wp2_with fail
  rw [HW1.out]
  refine (next_yes HQ.out.R).mono ?_
  rintro e w1 ⟨rfl, rfl⟩
  have qemit : ((Str skipW).toList == emitW) = false := eq_no (by decide)
  have qskip := eq_yes skipW
  simp only [skipW, emitW] at qemit
  simp only [skipW] at qskip
  try simp only [skipW]
  go_wp2_with fail
  refine (take_c HQ.out.R).mono ?_
  rintro e w2 ⟨rfl, o2, R2, M2⟩
  have HQ := Lib.hid (HQ.out.take R2 M2)
  clear R2 M2
  go_wp2_with fail
  clear qemit qskip
  refine (next_no HQ.out.R).mono ?_
  rintro e w1 ⟨rfl, rfl⟩
  obtain ⟨z0, z1, d0, d1⟩ := HQ.out.S0.cells
  obtain ⟨k0, k1, f0, f1⟩ := HQ.out.S1.cells
  have HQ := Lib.hid (HQ.out.set [] [])
  go_wp2
  ((try simp only [Exit.inBlock, Exit.then]); refine bodyPost_ret (Kt.results_cell2_row rfl _ _ (W.heap.size) 48 _ (0, 0) _ rfl (HQ.out.S0) Tryd.underlying48 rfl ?hi10) rfl ?_; (case hi10 => kernel_rfl))
  exact ⟨rfl, ⟨_, _, by first | exact HQ.out.R.atI (by have e0 : stp skipW ([]) = 4 := rfl; first | (dsimp only; done) | (dsimp only; omega)) | exact (HQ.out.R.below (Below.refl _ _).drew).atI (by have e0 : stp skipW ([]) = 4 := rfl; first | (dsimp only; done) | (dsimp only; omega))⟩, by first | exact HQ.out.M | exact HQ.out.M.drew⟩
set_option maxHeartbeats 4000000 in
set_option maxRecDepth 100000 in
theorem ac_skip_x {v1 : List UInt8} {r : List (List UInt8)} (h2 : v1 ≠ beginW) (h : Rq w W p b o (skipW :: v1 :: r) 0) (hb : b < W.heap.size) (hs : Sent 254 w A acs) : Calls Tryd.prog 66 #[.pointer (some ⟨p, 0, none⟩)] W (acP A w W p b (act (skipW :: v1 :: r))) := by
  have hq := Aq.start h hb
  have hact : act (skipW :: v1 :: r) = (([], []), stp skipW (v1 :: r), 4) := by rw [act_skip, act2_x h2]
  rw [hact]
  clear hact
  obtain ⟨W1, hW1⟩ : ∃ W1, ((W.alloc (.cells #[.string ⟨#[]⟩, .string ⟨#[]⟩] 48)).alloc (.cells #[.string ⟨#[]⟩, .string ⟨#[]⟩] 48)) = W1 := ⟨_, rfl⟩
  rw [hW1] at hq
  have HW1 := Lib.hid hW1
  have HQ := Lib.hid hq
  have HS := Lib.hid hs
  have hlb := block_lt h.hp
  have lErrForm : 3 ≠ W.heap.size := Nat.ne_of_lt (lt_of_cell (p := ⟨3, 0, none⟩) ((hs.keep h.B).cell 3 (by simp [acs])))
  have lErrLong : 2 ≠ W.heap.size := Nat.ne_of_lt (lt_of_cell (p := ⟨2, 0, none⟩) ((hs.keep h.B).cell 2 (by simp [acs])))
  have Hh2 := Lib.hid h2
  clear hW1 hq hs h hb h2
  go_enter Tryd.func66, Tryd.ntmps66
  go_wp2_with fail
  rw [HW1.out]
  refine (next_yes HQ.out.R).mono ?_
  rintro e w1 ⟨rfl, rfl⟩
  have qemit : ((Str skipW).toList == emitW) = false := eq_no (by decide)
  have qskip := eq_yes skipW
  simp only [skipW, emitW] at qemit
  simp only [skipW] at qskip
  try simp only [skipW]
  go_wp2_with fail
  refine (take_c HQ.out.R).mono ?_
  rintro e w2 ⟨rfl, o2, R2, M2⟩
  have HQ := Lib.hid (HQ.out.take R2 M2)
  clear R2 M2
  go_wp2_with fail
  clear qemit qskip
  refine (next_yes HQ.out.R).mono ?_
  rintro e w1 ⟨rfl, rfl⟩
  have qbegin := eq_no Hh2.out
  simp only [beginW] at qbegin

  go_wp2_with fail
  clear qbegin
  obtain ⟨z0, z1, d0, d1⟩ := HQ.out.S0.cells
  have e4 := (HS.out.keep HQ.out.R.B).cell 3 (by simp [acs])
  have HQ := Lib.hid (HQ.out.set [] [])
  go_region
  all_goals
    go_wp2
    ((try simp only [Exit.inBlock, Exit.then]); refine bodyPost_ret (Kt.results_cell2_row rfl _ _ (W.heap.size) 48 _ (0, 0) _ rfl (HQ.out.S0) Tryd.underlying48 rfl ?hi11) rfl ?_; (case hi11 => kernel_rfl))
    exact ⟨rfl, ⟨_, _, by first | exact HQ.out.R.atI (by have e0 : stp skipW (v1 :: r) = 5 := rfl; first | (dsimp only; done) | (dsimp only; omega)) | exact (HQ.out.R.below (Below.refl _ _).drew).atI (by have e0 : stp skipW (v1 :: r) = 5 := rfl; first | (dsimp only; done) | (dsimp only; omega))⟩, by first | exact HQ.out.M | exact HQ.out.M.drew⟩
set_option maxHeartbeats 4000000 in
set_option maxRecDepth 100000 in
theorem ac_skip_begin_none  (h : Rq w W p b o (skipW :: beginW :: []) 0) (hb : b < W.heap.size) (hs : Sent 254 w A acs) : Calls Tryd.prog 66 #[.pointer (some ⟨p, 0, none⟩)] W (acP A w W p b (act (skipW :: beginW :: []))) := by
  have hq := Aq.start h hb
  have hact : act (skipW :: beginW :: []) = (([], []), stp skipW (beginW :: []) + 5, 2) := by rw [act_skip, act2_none]
  rw [hact]
  clear hact
  obtain ⟨W1, hW1⟩ : ∃ W1, ((W.alloc (.cells #[.string ⟨#[]⟩, .string ⟨#[]⟩] 48)).alloc (.cells #[.string ⟨#[]⟩, .string ⟨#[]⟩] 48)) = W1 := ⟨_, rfl⟩
  rw [hW1] at hq
  have HW1 := Lib.hid hW1
  have HQ := Lib.hid hq
  have HS := Lib.hid hs
  have hlb := block_lt h.hp
  have lErrForm : 3 ≠ W.heap.size := Nat.ne_of_lt (lt_of_cell (p := ⟨3, 0, none⟩) ((hs.keep h.B).cell 3 (by simp [acs])))
  have lErrLong : 2 ≠ W.heap.size := Nat.ne_of_lt (lt_of_cell (p := ⟨2, 0, none⟩) ((hs.keep h.B).cell 2 (by simp [acs])))
  clear hW1 hq hs h hb
  go_enter Tryd.func66, Tryd.ntmps66
  go_wp2_with fail
  rw [HW1.out]
  refine (next_yes HQ.out.R).mono ?_
  rintro e w1 ⟨rfl, rfl⟩
  have qemit : ((Str skipW).toList == emitW) = false := eq_no (by decide)
  have qskip := eq_yes skipW
  simp only [skipW, emitW] at qemit
  simp only [skipW] at qskip
  try simp only [skipW]
  go_wp2_with fail
  refine (take_c HQ.out.R).mono ?_
  rintro e w2 ⟨rfl, o2, R2, M2⟩
  have HQ := Lib.hid (HQ.out.take R2 M2)
  clear R2 M2
  go_wp2_with fail
  clear qemit qskip
  refine (next_yes HQ.out.R).mono ?_
  rintro e w1 ⟨rfl, rfl⟩
  have qbegin := eq_yes beginW
  simp only [beginW] at qbegin
  try simp only [beginW]
  go_wp2_with fail
  clear qbegin
  refine (take_c HQ.out.R).mono ?_
  rintro e w2 ⟨rfl, o2, R2, M2⟩
  have HQ := Lib.hid (HQ.out.take R2 M2)
  clear R2 M2
  go_wp2_with fail
  refine (name_none HQ.out.R (HS.out)).mono ?_
  rintro e w2 ⟨rfl, R2, M2⟩
  have hq2 := HQ.out.take R2 M2
  obtain ⟨k0, k1, f0, f1⟩ := hq2.S1.cells
  have HQ := Lib.hid (hq2.seta1 [])
  clear hq2 R2 M2
  obtain ⟨z0, z1, d0, d1⟩ := HQ.out.S0.cells
  simp only [show eva A 2 = .iface 254 (.pointer (some (A 1))) from rfl, show eva A 5 = .iface 254 (.pointer (some (A 4))) from rfl]
  go_wp2
  have HQ := Lib.hid (HQ.out.set [] [])
  ((try simp only [Exit.inBlock, Exit.then]); refine bodyPost_ret (Kt.results_cell2_row rfl _ _ (W.heap.size) 48 _ (0, 0) _ rfl (HQ.out.S0) Tryd.underlying48 rfl ?hi12) rfl ?_; (case hi12 => kernel_rfl))
  exact ⟨rfl, ⟨_, _, by first | exact HQ.out.R.atI (by have e0 : stp skipW (beginW :: []) = 5 := rfl; have e1 : stp beginW ([]) = 5 := rfl; first | (dsimp only; done) | (dsimp only; omega)) | exact (HQ.out.R.below (Below.refl _ _).drew).atI (by have e0 : stp skipW (beginW :: []) = 5 := rfl; have e1 : stp beginW ([]) = 5 := rfl; first | (dsimp only; done) | (dsimp only; omega))⟩, by first | exact HQ.out.M | exact HQ.out.M.drew⟩
set_option maxHeartbeats 4000000 in
set_option maxRecDepth 100000 in
theorem ac_skip_begin_badname {n0 : List UInt8} {r : List (List UInt8)} (g0 : nm n0 = false) (h : Rq w W p b o (skipW :: beginW :: n0 :: r) 0) (hb : b < W.heap.size) (hs : Sent 254 w A acs) : Calls Tryd.prog 66 #[.pointer (some ⟨p, 0, none⟩)] W (acP A w W p b (act (skipW :: beginW :: n0 :: r))) := by
  have hq := Aq.start h hb
  have hact : act (skipW :: beginW :: n0 :: r) = (([], []), stp skipW (beginW :: n0 :: r) + 6, 5) := by rw [act_skip, act2_bad g0]
  rw [hact]
  clear hact
  obtain ⟨W1, hW1⟩ : ∃ W1, ((W.alloc (.cells #[.string ⟨#[]⟩, .string ⟨#[]⟩] 48)).alloc (.cells #[.string ⟨#[]⟩, .string ⟨#[]⟩] 48)) = W1 := ⟨_, rfl⟩
  rw [hW1] at hq
  have HW1 := Lib.hid hW1
  have HQ := Lib.hid hq
  have HS := Lib.hid hs
  have hlb := block_lt h.hp
  have lErrForm : 3 ≠ W.heap.size := Nat.ne_of_lt (lt_of_cell (p := ⟨3, 0, none⟩) ((hs.keep h.B).cell 3 (by simp [acs])))
  have lErrLong : 2 ≠ W.heap.size := Nat.ne_of_lt (lt_of_cell (p := ⟨2, 0, none⟩) ((hs.keep h.B).cell 2 (by simp [acs])))
  have Hg0 := Lib.hid g0
  clear hW1 hq hs h hb g0
  go_enter Tryd.func66, Tryd.ntmps66
  go_wp2_with fail
  rw [HW1.out]
  refine (next_yes HQ.out.R).mono ?_
  rintro e w1 ⟨rfl, rfl⟩
  have qemit : ((Str skipW).toList == emitW) = false := eq_no (by decide)
  have qskip := eq_yes skipW
  simp only [skipW, emitW] at qemit
  simp only [skipW] at qskip
  try simp only [skipW]
  go_wp2_with fail
  refine (take_c HQ.out.R).mono ?_
  rintro e w2 ⟨rfl, o2, R2, M2⟩
  have HQ := Lib.hid (HQ.out.take R2 M2)
  clear R2 M2
  go_wp2_with fail
  clear qemit qskip
  refine (next_yes HQ.out.R).mono ?_
  rintro e w1 ⟨rfl, rfl⟩
  have qbegin := eq_yes beginW
  simp only [beginW] at qbegin
  try simp only [beginW]
  go_wp2_with fail
  clear qbegin
  refine (take_c HQ.out.R).mono ?_
  rintro e w2 ⟨rfl, o2, R2, M2⟩
  have HQ := Lib.hid (HQ.out.take R2 M2)
  clear R2 M2
  go_wp2_with fail
  refine (name_bad Hg0.out HQ.out.R (HS.out)).mono ?_
  rintro e w2 ⟨rfl, R2, M2⟩
  have hq2 := HQ.out.take R2 M2
  obtain ⟨k0, k1, f0, f1⟩ := hq2.S1.cells
  have HQ := Lib.hid (hq2.seta1 [])
  clear hq2 R2 M2
  obtain ⟨z0, z1, d0, d1⟩ := HQ.out.S0.cells
  simp only [show eva A 2 = .iface 254 (.pointer (some (A 1))) from rfl, show eva A 5 = .iface 254 (.pointer (some (A 4))) from rfl]
  go_wp2
  have HQ := Lib.hid (HQ.out.set [] [])
  ((try simp only [Exit.inBlock, Exit.then]); refine bodyPost_ret (Kt.results_cell2_row rfl _ _ (W.heap.size) 48 _ (0, 0) _ rfl (HQ.out.S0) Tryd.underlying48 rfl ?hi13) rfl ?_; (case hi13 => kernel_rfl))
  exact ⟨rfl, ⟨_, _, by first | exact HQ.out.R.atI (by have e0 : stp skipW (beginW :: n0 :: r) = 5 := rfl; have e1 : stp beginW (n0 :: r) = 6 := rfl; first | (dsimp only; done) | (dsimp only; omega)) | exact (HQ.out.R.below (Below.refl _ _).drew).atI (by have e0 : stp skipW (beginW :: n0 :: r) = 5 := rfl; have e1 : stp beginW (n0 :: r) = 6 := rfl; first | (dsimp only; done) | (dsimp only; omega))⟩, by first | exact HQ.out.M | exact HQ.out.M.drew⟩
set_option maxHeartbeats 4000000 in
set_option maxRecDepth 100000 in
theorem ac_skip_begin_name_end {n0 : List UInt8} (g0 : nm n0 = true) (h : Rq w W p b o (skipW :: beginW :: n0 :: []) 0) (hb : b < W.heap.size) (hs : Sent 254 w A acs) : Calls Tryd.prog 66 #[.pointer (some ⟨p, 0, none⟩)] W (acP A w W p b (act (skipW :: beginW :: n0 :: []))) := by
  have hq := Aq.start h hb
  have hact : act (skipW :: beginW :: n0 :: []) = (([], n0), stp skipW (beginW :: n0 :: []) + 6 + n0.length, 0) := by rw [act_skip, act2_name g0]
  rw [hact]
  clear hact
  obtain ⟨W1, hW1⟩ : ∃ W1, ((W.alloc (.cells #[.string ⟨#[]⟩, .string ⟨#[]⟩] 48)).alloc (.cells #[.string ⟨#[]⟩, .string ⟨#[]⟩] 48)) = W1 := ⟨_, rfl⟩
  rw [hW1] at hq
  have HW1 := Lib.hid hW1
  have HQ := Lib.hid hq
  have HS := Lib.hid hs
  have hlb := block_lt h.hp
  have lErrForm : 3 ≠ W.heap.size := Nat.ne_of_lt (lt_of_cell (p := ⟨3, 0, none⟩) ((hs.keep h.B).cell 3 (by simp [acs])))
  have lErrLong : 2 ≠ W.heap.size := Nat.ne_of_lt (lt_of_cell (p := ⟨2, 0, none⟩) ((hs.keep h.B).cell 2 (by simp [acs])))
  have Hg0 := Lib.hid g0
  clear hW1 hq hs h hb g0
  go_enter Tryd.func66, Tryd.ntmps66
  go_wp2_with fail
  rw [HW1.out]
  refine (next_yes HQ.out.R).mono ?_
  rintro e w1 ⟨rfl, rfl⟩
  have qemit : ((Str skipW).toList == emitW) = false := eq_no (by decide)
  have qskip := eq_yes skipW
  simp only [skipW, emitW] at qemit
  simp only [skipW] at qskip
  try simp only [skipW]
  go_wp2_with fail
  refine (take_c HQ.out.R).mono ?_
  rintro e w2 ⟨rfl, o2, R2, M2⟩
  have HQ := Lib.hid (HQ.out.take R2 M2)
  clear R2 M2
  go_wp2_with fail
  clear qemit qskip
  refine (next_yes HQ.out.R).mono ?_
  rintro e w1 ⟨rfl, rfl⟩
  have qbegin := eq_yes beginW
  simp only [beginW] at qbegin
  try simp only [beginW]
  go_wp2_with fail
  clear qbegin
  refine (take_c HQ.out.R).mono ?_
  rintro e w2 ⟨rfl, o2, R2, M2⟩
  have HQ := Lib.hid (HQ.out.take R2 M2)
  clear R2 M2
  go_wp2_with fail
  refine (name_good Hg0.out HQ.out.R).mono ?_
  rintro e w2 ⟨rfl, o2, R2, M2⟩
  have hq2 := HQ.out.take R2 M2
  obtain ⟨k0, k1, f0, f1⟩ := hq2.S1.cells
  have HQ := Lib.hid (hq2.seta1 n0)
  clear hq2 R2 M2
  go_wp2_with fail
  clear k0 k1 f0 f1
  refine (next_no HQ.out.R).mono ?_
  rintro e w1 ⟨rfl, rfl⟩
  obtain ⟨z0, z1, d0, d1⟩ := HQ.out.S0.cells
  obtain ⟨k0, k1, f0, f1⟩ := HQ.out.S1.cells
  have HQ := Lib.hid (HQ.out.set [] n0)
  go_wp2
  ((try simp only [Exit.inBlock, Exit.then]); refine bodyPost_ret (Kt.results_cell2_row rfl _ _ (W.heap.size) 48 _ (0, 0) _ rfl (HQ.out.S0) Tryd.underlying48 rfl ?hi14) rfl ?_; (case hi14 => kernel_rfl))
  exact ⟨rfl, ⟨_, _, by first | exact HQ.out.R.atI (by have e0 : stp skipW (beginW :: n0 :: []) = 5 := rfl; have e1 : stp beginW (n0 :: []) = 6 := rfl; have e2 : stp n0 ([]) = n0.length := rfl; first | (dsimp only; done) | (dsimp only; omega)) | exact (HQ.out.R.below (Below.refl _ _).drew).atI (by have e0 : stp skipW (beginW :: n0 :: []) = 5 := rfl; have e1 : stp beginW (n0 :: []) = 6 := rfl; have e2 : stp n0 ([]) = n0.length := rfl; first | (dsimp only; done) | (dsimp only; omega))⟩, by first | exact HQ.out.M | exact HQ.out.M.drew⟩
set_option maxHeartbeats 4000000 in
set_option maxRecDepth 100000 in
theorem ac_skip_begin_name_more {n0 v2 : List UInt8} {r : List (List UInt8)} (g0 : nm n0 = true) (h : Rq w W p b o (skipW :: beginW :: n0 :: v2 :: r) 0) (hb : b < W.heap.size) (hs : Sent 254 w A acs) : Calls Tryd.prog 66 #[.pointer (some ⟨p, 0, none⟩)] W (acP A w W p b (act (skipW :: beginW :: n0 :: v2 :: r))) := by
  have hq := Aq.start h hb
  have hact : act (skipW :: beginW :: n0 :: v2 :: r) = (([], []), stp skipW (beginW :: n0 :: v2 :: r) + 6 + n0.length + 1, 3) := by rw [act_skip, act2_more g0]
  rw [hact]
  clear hact
  obtain ⟨W1, hW1⟩ : ∃ W1, ((W.alloc (.cells #[.string ⟨#[]⟩, .string ⟨#[]⟩] 48)).alloc (.cells #[.string ⟨#[]⟩, .string ⟨#[]⟩] 48)) = W1 := ⟨_, rfl⟩
  rw [hW1] at hq
  have HW1 := Lib.hid hW1
  have HQ := Lib.hid hq
  have HS := Lib.hid hs
  have hlb := block_lt h.hp
  have lErrForm : 3 ≠ W.heap.size := Nat.ne_of_lt (lt_of_cell (p := ⟨3, 0, none⟩) ((hs.keep h.B).cell 3 (by simp [acs])))
  have lErrLong : 2 ≠ W.heap.size := Nat.ne_of_lt (lt_of_cell (p := ⟨2, 0, none⟩) ((hs.keep h.B).cell 2 (by simp [acs])))
  have Hg0 := Lib.hid g0
  clear hW1 hq hs h hb g0
  go_enter Tryd.func66, Tryd.ntmps66
  go_wp2_with fail
  rw [HW1.out]
  refine (next_yes HQ.out.R).mono ?_
  rintro e w1 ⟨rfl, rfl⟩
  have qemit : ((Str skipW).toList == emitW) = false := eq_no (by decide)
  have qskip := eq_yes skipW
  simp only [skipW, emitW] at qemit
  simp only [skipW] at qskip
  try simp only [skipW]
  go_wp2_with fail
  refine (take_c HQ.out.R).mono ?_
  rintro e w2 ⟨rfl, o2, R2, M2⟩
  have HQ := Lib.hid (HQ.out.take R2 M2)
  clear R2 M2
  go_wp2_with fail
  clear qemit qskip
  refine (next_yes HQ.out.R).mono ?_
  rintro e w1 ⟨rfl, rfl⟩
  have qbegin := eq_yes beginW
  simp only [beginW] at qbegin
  try simp only [beginW]
  go_wp2_with fail
  clear qbegin
  refine (take_c HQ.out.R).mono ?_
  rintro e w2 ⟨rfl, o2, R2, M2⟩
  have HQ := Lib.hid (HQ.out.take R2 M2)
  clear R2 M2
  go_wp2_with fail
  refine (name_good Hg0.out HQ.out.R).mono ?_
  rintro e w2 ⟨rfl, o2, R2, M2⟩
  have hq2 := HQ.out.take R2 M2
  obtain ⟨k0, k1, f0, f1⟩ := hq2.S1.cells
  have HQ := Lib.hid (hq2.seta1 n0)
  clear hq2 R2 M2
  go_wp2_with fail
  clear k0 k1 f0 f1
  refine (next_yes HQ.out.R).mono ?_
  rintro e w1 ⟨rfl, rfl⟩
  go_wp2_with fail
  obtain ⟨z0, z1, d0, d1⟩ := HQ.out.S0.cells
  have e4 := (HS.out.keep HQ.out.R.B).cell 2 (by simp [acs])
  have HQ := Lib.hid (HQ.out.set [] [])
  go_region
  all_goals
    go_wp2
    ((try simp only [Exit.inBlock, Exit.then]); refine bodyPost_ret (Kt.results_cell2_row rfl _ _ (W.heap.size) 48 _ (0, 0) _ rfl (HQ.out.S0) Tryd.underlying48 rfl ?hi15) rfl ?_; (case hi15 => kernel_rfl))
    exact ⟨rfl, ⟨_, _, by first | exact HQ.out.R.atI (by have e0 : stp skipW (beginW :: n0 :: v2 :: r) = 5 := rfl; have e1 : stp beginW (n0 :: v2 :: r) = 6 := rfl; have e2 : stp n0 (v2 :: r) = n0.length + 1 := rfl; first | (dsimp only; done) | (dsimp only; omega)) | exact (HQ.out.R.below (Below.refl _ _).drew).atI (by have e0 : stp skipW (beginW :: n0 :: v2 :: r) = 5 := rfl; have e1 : stp beginW (n0 :: v2 :: r) = 6 := rfl; have e2 : stp n0 (v2 :: r) = n0.length + 1 := rfl; first | (dsimp only; done) | (dsimp only; omega))⟩, by first | exact HQ.out.M | exact HQ.out.M.drew⟩
end Ac
end Go.Proofs.YtmfcabidmacdcaaDoor
