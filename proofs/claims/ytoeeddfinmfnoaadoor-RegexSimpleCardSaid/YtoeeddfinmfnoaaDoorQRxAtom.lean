import Derived.Test.YtoeeddfinmfnoaaDoorQRxName
import Derived.Test.YtoeeddfinmfnoaaDoorQBrkRead3
import Derived.Test.YtoeeddfinmfnoaaDoorQBrkDot
import Derived.Deep.CutBlock
/- The walks of package regex's reader: atom, way by way (printed by gen_rxatom.py). -/
namespace Go.Proofs.YtoeeddfinmfnoaaDoor
namespace Kt
end Kt
namespace Sp
end Sp
namespace St
end St
namespace Bk
end Bk
namespace Bo
end Bo
namespace Tr
end Tr
open Go Go.RowKit Kt Sp St Bk Bo Tr
namespace Rx
/-- The reader's function at work: its result's block R is still nothing. -/
structure At (w0 W V : World) (p : Nat) (s : ByteArray) (A : Nat → Addr) (st : S) (R : Nat) : Prop where
  rr : Rr w0 V p s A st
  mod : Mod [p] W V
  z : V.heap[R]? = some Z9
  hR : W.heap.size ≤ R
  hp : R ≠ p
  hw : w0.heap.size ≤ W.heap.size
  hpw : p < W.heap.size
variable {w0 W V V' : World} {p R : Nat} {s : ByteArray} {A : Nat → Addr} {st st' : S}
theorem At.step (h : At w0 W V p s A st R) (hr : Rr w0 V' p s A st') (hm : Mod [p] V V') : At w0 W V' p s A st' R :=
  ⟨hr, h.mod.trans hm (fun x hx => .inl hx), (hm.block R (block_lt h.z) (by simpa using h.hp)).trans h.z, h.hR, h.hp, h.hw, h.hpw⟩
theorem At.below (h : At w0 W V p s A st R) (hb : Below V.heap.size V V') : At w0 W V' p s A st R := h.step (h.rr.below hb) (Mod.of_below hb _)
theorem At.drewN (h : At w0 W V p s A st R) (n : Nat) : At w0 W (V.drewN n) p s A st R := h.below (below_drewN (Below.refl _ _) n)
theorem At.drew (h : At w0 W V p s A st R) : At w0 W V.drew p s A st R := h.below (Below.refl _ _).drew
theorem At.new (h : Rr w0 W p s A st) : At w0 W (W.alloc Z9) p s A st W.heap.size :=
  ⟨h.below ((Below.refl _ _).alloc (Nat.le_refl _) _), Mod.of_below ((Below.refl _ _).alloc (Nat.le_refl _) _) _, World.alloc_heap_new _ _, Nat.le_refl _, by have := h.blk; omega, h.B.size, h.blk⟩
theorem At.fin {k mn mx : Int} {x0 x1 x2 x3 nl c : Nat} {a : Option Addr} {t : List UInt8} {ks : List Nd} (h : At w0 W V p s A st R) (hn : ks.length = nl) (hI : Tr.Is V.heap.size V (.mk k [x0, x1, x2, x3] mn mx t a c ks)) (hb : Bl (fun q => W.heap.size ≤ q ∧ q ≠ R) (.mk k [x0, x1, x2, x3] mn mx t a c ks)) :
    (put9 V R (.int .i64 k) (.int .u64 (x0 : Int)) (.int .u64 (x1 : Int)) (.int .u64 (x2 : Int)) (.int .u64 (x3 : Int)) (.slice a nl c) (.int .i64 mn) (.int .i64 mx) (.string (Str t))).heap[R]? = some (.cells #[.int .i64 k, .int .u64 (x0 : Int), .int .u64 (x1 : Int), .int .u64 (x2 : Int), .int .u64 (x3 : Int), .slice a nl c, .int .i64 mn, .int .i64 mx, .string (Str t)] 27 (0, 0)) ∧
    NdP w0 W p s A (er (.mk k [x0, x1, x2, x3] mn mx t a c ks), st) (.returned (.agg #[.int .i64 k, .int .u64 (x0 : Int), .int .u64 (x1 : Int), .int .u64 (x2 : Int), .int .u64 (x3 : Int), .slice a nl c, .int .i64 mn, .int .i64 mx, .string (Str t)])) (put9 V R (.int .i64 k) (.int .u64 (x0 : Int)) (.int .u64 (x1 : Int)) (.int .u64 (x2 : Int)) (.int .u64 (x3 : Int)) (.slice a nl c) (.int .i64 mn) (.int .i64 mx) (.string (Str t))) := by
  subst hn
  have hm2 := put9_mod V R (.int .i64 k) (.int .u64 (x0 : Int)) (.int .u64 (x1 : Int)) (.int .u64 (x2 : Int)) (.int .u64 (x3 : Int)) (.slice a ks.length c) (.int .i64 mn) (.int .i64 mx) (.string (Str t))
  have h1 := h.hR
  have h2 := h.hw
  have h3 := h.hpw
  exact ⟨put9_block h.z _ _ _ _ _ _ _ _ _, _, rfl, rfl, Is.mono hm2.size (Is.modB hm2 hI (hb.mono fun q hq => by simpa using hq.2)), hb.mono fun q hq => hq.1, h.rr.put (by omega) (fun e => h.hp e.symm) _ _ _ _ _ _ _ _ _, h.mod.trans hm2 (fun x hx => .inr (by simp at hx; omega))⟩
theorem At.put4 (h : At w0 W V p s A st R) {b : Nat} (hb : W.heap.size ≤ b) (hbp : b ≠ p) (hbR : b ≠ R) (z0 z1 z2 z3 : Nat) : At w0 W (Bk.put4 V b z0 z1 z2 z3) p s A st R := by
  have h1 := h.hw
  have hm : Mod [b] V (Bk.put4 V b z0 z1 z2 z3) := put4_mod (Mod.refl _ _) (.inl (by simp)) _ _ _ _
  exact ⟨⟨by rw [put4_other (fun e => hbp e.symm)]; exact h.rr.hp, put4_below h.rr.B (by omega) _ _ _ _, h.rr.l, h.rr.hs⟩, h.mod.trans hm (fun x hx => .inr (by simp at hx; omega)), by rw [put4_other (fun e => hbR e.symm)]; exact h.z, h.hR, h.hp, h.hw, h.hpw⟩
theorem At.lt (h : At w0 W V p s A st R) : W.heap.size ≤ V.heap.size ∧ p < V.heap.size ∧ R < V.heap.size := ⟨h.mod.size, h.rr.blk, block_lt h.z⟩
theorem wOf_len (f : Nat → Bool) : (wOf f).length = 4 := by
  unfold wOf
  split
  · next h => exact (Classical.choose_spec h).len
  · rfl
theorem evb_ee (A : Nat → Addr) {g : Nat} (h : g = 0 ∨ g = 1 ∨ g = 2 ∨ g = 4) : evb A g = ee A (g : Int) := by rcases h with rfl | rfl | rfl | rfl <;> rfl
theorem evn_ee (A : Nat → Addr) {g : Nat} (h : g = 0 ∨ g = 2 ∨ g = 4) : evn A g = ee A (g : Int) := by rcases h with rfl | rfl | rfl <;> rfl
theorem take_v (c : UInt8) (L : ByteArray) (b : Bool) (hL : Str [c] = L) (hsz : s.size ≤ 1000000) (hb : on s.data.toList st [c] = b) (V : World) (h : Rr w0 V p s A st) : Calls Tryd.prog 74 #[.pointer (some ⟨p, 0, none⟩), .string L] V fun r w' => r = .returned (.bool b) ∧ Rr w0 w' p s A (if b then nx st else st) ∧ Mod [p] V w' := by
  have := take_l c L hL hsz V h
  unfold takeS at this
  rw [hb] at this
  cases b <;> exact this
theorem on_v (l : List UInt8) (L : ByteArray) (b : Bool) (hL : Str l = L) (hsz : s.size ≤ 1000000) (hb : on s.data.toList st l = b) (V : World) (h : Rr w0 V p s A st) : Calls Tryd.prog 104 #[.pointer (some ⟨p, 0, none⟩), .string L] V fun r w' => r = .returned (.bool b) ∧ ∃ n, w' = V.drewN n := by
  rw [← hb]
  exact on_l l L hL hsz V h
/-- A set's tree. -/
theorem bytes_w (f : Nat → Bool) {x0 x1 x2 x3 : Nat} (_hw : wOf f = [x0, x1, x2, x3]) (W : World) : Calls Tryd.prog 150 #[.agg #[.int .u64 (x0 : Int), .int .u64 (x1 : Int), .int .u64 (x2 : Int), .int .u64 (x3 : Int)]] W fun e w' => e = .returned (.agg #[.int .i64 1, .int .u64 (x0 : Int), .int .u64 (x1 : Int), .int .u64 (x2 : Int), .int .u64 (x3 : Int), .slice none 0 0, .int .i64 0, .int .i64 0, .string (Str [])]) ∧ Below W.heap.size W w' := bytes_c x0 x1 x2 x3 W
set_option maxRecDepth 100000 in
set_option maxHeartbeats 8000000 in
theorem atom_name (hsz : s.size ≤ 1000000) (hlt : st.pos < s.size) (h40 : on s.data.toList st [40] = false) (h91 : on s.data.toList st [91] = false) (h123 : on s.data.toList st [123] = true) (h : Rr w0 W p s A st) : Calls Tryd.prog 134 #[.pointer (some ⟨p, 0, none⟩)] W (NdP w0 W p s A (name s.data.toList st)) := by
  have a1 := At.new h
  obtain ⟨W1, hW1⟩ : ∃ W1, W.alloc Z9 = W1 := ⟨_, rfl⟩
  rw [hW1] at a1
  have HW1 := Lib.hid (show W.alloc (.cells #[.int .i64 0, .int .u64 0, .int .u64 0, .int .u64 0, .int .u64 0, .slice none 0 0, .int .i64 0, .int .i64 0, .string ⟨#[]⟩] 27) = W1 from hW1)
  obtain ⟨R, hR⟩ : ∃ R, W.heap.size = R := ⟨_, rfl⟩
  rw [hR] at a1
  have HR := Lib.hid hR
  have H1 := Lib.hid a1
  have HT40 := Lib.hid (take_v (w0 := w0) (p := p) (A := A) 40 ⟨#[40]⟩ false rfl hsz h40)
  have HT91 := Lib.hid (on_v (w0 := w0) (p := p) (A := A) [91] ⟨#[91]⟩ false rfl hsz h91)
  have HT123 := Lib.hid (on_v (w0 := w0) (p := p) (A := A) [123] ⟨#[123]⟩ true rfl hsz h123)
  have HN := Lib.hid (fun V (h' : Rr w0 V p s A st) => name_c hsz h' hlt)
  clear h a1 hW1 h40 h91 h123
  go_enter Tryd.func134, Tryd.ntmps134
  go_upto_region 1 with (fail)
  rw [HW1.out]
  try rw [HR.out]
  clear hR
  go_wp2_with fail
  refine (HT40.out _ H1.out.rr).mono ?_
  rintro _ w2 ⟨rfl, hr, hm⟩
  have H2 := Lib.hid (H1.out.step (st' := st) hr hm)
  clear hr hm
  go_wp2_with fail
  refine (HT91.out _ H2.out.rr).mono ?_
  rintro _ w3 ⟨rfl, m3, hw3⟩
  have H3 : Hid (At w0 W w3 p s A st R) := Lib.hid (by rw [hw3]; exact H2.out.drewN m3)
  clear hw3
  go_wp2_with fail
  refine (HT123.out _ H3.out.rr).mono ?_
  rintro _ w4 ⟨rfl, m4, hw4⟩
  have H4 : Hid (At w0 W w4 p s A st R) := Lib.hid (by rw [hw4]; exact H3.out.drewN m4)
  clear hw4
  go_wp2_with fail
  refine (HN.out _ H4.out.rr).mono ?_
  rintro _ w9 ⟨m, rfl, hme, hI, hb, hr, hm⟩
  have h9 := H4.out.step hr hm
  have hbb : Bl (fun q => W.heap.size ≤ q ∧ q ≠ R) m := hb.mono fun q hq => by have := block_lt H4.out.z; have := H4.out.hR; simp at hq this ⊢; omega
  obtain ⟨x0, x1, x2, x3, hs4⟩ := four hI.len
  obtain ⟨k, sx, mn, mx, t, a, c, ks⟩ := m
  simp only [Nd.set] at hs4
  subst hs4
  obtain ⟨nl, hnl⟩ : ∃ nl, ks.length = nl := ⟨_, rfl⟩
  have hf := h9.fin hnl hI hbb
  rw [hme] at hf
  have hnv : nv (.mk k [x0, x1, x2, x3] mn mx t a c ks) = .agg #[.int .i64 k, .int .u64 (x0 : Int), .int .u64 (x1 : Int), .int .u64 (x2 : Int), .int .u64 (x3 : Int), .slice a nl c, .int .i64 mn, .int .i64 mx, .string (Str t)] := by rw [← hnl]; rfl
  rw [hnv]
  obtain ⟨⟨d0, d1, d2, d3, d4, d5, d6, d7, d8⟩, g0, g1, g2, g3, g4, g5, g6, g7, g8⟩ := z9_cells h9.z
  have HPb := Lib.hid hf.1
  have HFin := Lib.hid hf.2
  clear hf h9 hbb hnv hnl hI hb hr hm hme
  go_wp2
  ((try simp only [Exit.inBlock, Exit.then]); refine bodyPost_ret (results_cell_row rfl _ _ (R) 27 _ (0, 0) _ rfl (HPb.out) Tryd.underlying27 rfl ?hi1) rfl ?_; (case hi1 => kernel_rfl))
  exact HFin.out
set_option maxRecDepth 100000 in
set_option maxHeartbeats 8000000 in
theorem atom_dot (hsz : s.size ≤ 1000000) (h40 : on s.data.toList st [40] = false) (h91 : on s.data.toList st [91] = false) (h123 : on s.data.toList st [123] = false) (h46 : on s.data.toList st [46] = true) (h : Rr w0 W p s A st) : Calls Tryd.prog 134 #[.pointer (some ⟨p, 0, none⟩)] W (NdP w0 W p s A (bts (fun q => !decide (q = 10)), nx st)) := by
  obtain ⟨x0, x1, x2, x3, hw⟩ := four (wOf_len (fun q => !decide (q = 10)))
  have hbt : (bts (fun q => !decide (q = 10))) = .mk 1 [x0, x1, x2, x3] 0 0 [] none 0 [] := by unfold bts; rw [hw]
  have hdot : ∀ V, Calls Tryd.prog 99 #[] V fun e w' => e = .returned (.agg #[.int .u64 (x0 : Int), .int .u64 (x1 : Int), .int .u64 (x2 : Int), .int .u64 (x3 : Int)]) ∧ Below V.heap.size V w' := fun V => (Bk.dot_c V).mono fun e w' ⟨rs, h1, h2, h3⟩ => by
    rw [← wOf_of h2, hw] at h1
    exact ⟨h1, h3⟩
  have a1 := At.new h
  obtain ⟨W1, hW1⟩ : ∃ W1, W.alloc Z9 = W1 := ⟨_, rfl⟩
  rw [hW1] at a1
  have HW1 := Lib.hid (show W.alloc (.cells #[.int .i64 0, .int .u64 0, .int .u64 0, .int .u64 0, .int .u64 0, .slice none 0 0, .int .i64 0, .int .i64 0, .string ⟨#[]⟩] 27) = W1 from hW1)
  obtain ⟨R, hR⟩ : ∃ R, W.heap.size = R := ⟨_, rfl⟩
  rw [hR] at a1
  have HR := Lib.hid hR
  have H1 := Lib.hid a1
  have HT40 := Lib.hid (take_v (w0 := w0) (p := p) (A := A) 40 ⟨#[40]⟩ false rfl hsz h40)
  have HT91 := Lib.hid (on_v (w0 := w0) (p := p) (A := A) [91] ⟨#[91]⟩ false rfl hsz h91)
  have HT123 := Lib.hid (on_v (w0 := w0) (p := p) (A := A) [123] ⟨#[123]⟩ false rfl hsz h123)
  have HT46 := Lib.hid (take_v (w0 := w0) (p := p) (A := A) 46 ⟨#[46]⟩ true rfl hsz h46)
  have HD := Lib.hid hdot
  have HBy := Lib.hid (bytes_w _ hw)
  have HBt := Lib.hid hbt
  rw [hbt]
  clear h a1 hW1 h40 h91 h123 h46 hdot hw hbt
  go_enter Tryd.func134, Tryd.ntmps134
  go_upto_region 1 with (fail)
  rw [HW1.out]
  try rw [HR.out]
  clear hR
  go_wp2_with fail
  refine (HT40.out _ H1.out.rr).mono ?_
  rintro _ w2 ⟨rfl, hr, hm⟩
  have H2 := Lib.hid (H1.out.step (st' := st) hr hm)
  clear hr hm
  go_wp2_with fail
  refine (HT91.out _ H2.out.rr).mono ?_
  rintro _ w3 ⟨rfl, m3, hw3⟩
  have H3 : Hid (At w0 W w3 p s A st R) := Lib.hid (by rw [hw3]; exact H2.out.drewN m3)
  clear hw3
  go_wp2_with fail
  refine (HT123.out _ H3.out.rr).mono ?_
  rintro _ w4 ⟨rfl, m4, hw4⟩
  have H4 : Hid (At w0 W w4 p s A st R) := Lib.hid (by rw [hw4]; exact H3.out.drewN m4)
  clear hw4
  go_wp2_with fail
  refine (HT46.out _ H4.out.rr).mono ?_
  rintro _ w5 ⟨rfl, hr, hm⟩
  have H5 := Lib.hid (H4.out.step (st' := nx st) hr hm)
  clear hr hm
  go_wp2_with fail
  refine (HD.out _).mono ?_
  rintro _ w8 ⟨rfl, hb8⟩
  have H8 := Lib.hid (H5.out.below hb8)
  clear hb8
  go_wp2_with fail
  refine (HBy.out _).mono ?_
  rintro _ w9 ⟨rfl, hb9'⟩
  have h9 := H8.out.below hb9'
  clear hb9'
  have hb9 : Bl (fun q => W.heap.size ≤ q ∧ q ≠ R) (.mk 1 [x0, x1, x2, x3] 0 0 [] none 0 []) := leaf_bl _ _ _ _ _ _ _ _ _
  have hf := h9.fin (t := []) (ks := []) rfl (leaf_is _ _ _ _ _ _ _ _ _ _) hb9
  obtain ⟨⟨d0, d1, d2, d3, d4, d5, d6, d7, d8⟩, g0, g1, g2, g3, g4, g5, g6, g7, g8⟩ := z9_cells h9.z
  have HPb := Lib.hid hf.1
  have HFin := Lib.hid hf.2
  clear hf h9 hb9
  go_wp2
  ((try simp only [Exit.inBlock, Exit.then]); refine bodyPost_ret (results_cell_row rfl _ _ (R) 27 _ (0, 0) _ rfl (HPb.out) Tryd.underlying27 rfl ?hi2) rfl ?_; (case hi2 => kernel_rfl))
  exact HFin.out
set_option maxRecDepth 100000 in
set_option maxHeartbeats 8000000 in
theorem atom_never (hsz : s.size ≤ 1000000) (h40 : on s.data.toList st [40] = false) (h91 : on s.data.toList st [91] = false) (h123 : on s.data.toList st [123] = false) (h46 : on s.data.toList st [46] = false) (hnever : on s.data.toList st [42, 43, 63, 93, 125, 47] = true) (h : Rr w0 W p s A st) : Calls Tryd.prog 134 #[.pointer (some ⟨p, 0, none⟩)] W (NdP w0 W p s A (zero, fail st st.pos 4)) := by
  have hfF : ∀ V, Rr w0 V p s A st → Calls Tryd.prog 49 #[.pointer (some ⟨p, 0, none⟩), .int .i64 (st.pos : Int), Er.ev A 0] V fun r w' => r = .returned (.tuple #[]) ∧ Rr w0 w' p s A (fail st st.pos 4) ∧ Mod [p] V w' := fun V h' => by rw [ee_form]; exact fail_c st.pos 4 (by decide) h'
  have hgF : ∀ V st', Rr w0 V p s A st' → V.cell? ⟨0, 0, none⟩ = some (Er.ev A 0) := fun V st' h' => h'.sent _ (by simp [rgs])
  obtain ⟨EF, hEF⟩ : ∃ E, Er.ev A 0 = E := ⟨_, rfl⟩
  rw [hEF] at hfF hgF
  have a1 := At.new h
  obtain ⟨W1, hW1⟩ : ∃ W1, W.alloc Z9 = W1 := ⟨_, rfl⟩
  rw [hW1] at a1
  have HW1 := Lib.hid (show W.alloc (.cells #[.int .i64 0, .int .u64 0, .int .u64 0, .int .u64 0, .int .u64 0, .slice none 0 0, .int .i64 0, .int .i64 0, .string ⟨#[]⟩] 27) = W1 from hW1)
  obtain ⟨R, hR⟩ : ∃ R, W.heap.size = R := ⟨_, rfl⟩
  rw [hR] at a1
  have HR := Lib.hid hR
  have H1 := Lib.hid a1
  have HT40 := Lib.hid (take_v (w0 := w0) (p := p) (A := A) 40 ⟨#[40]⟩ false rfl hsz h40)
  have HT91 := Lib.hid (on_v (w0 := w0) (p := p) (A := A) [91] ⟨#[91]⟩ false rfl hsz h91)
  have HT123 := Lib.hid (on_v (w0 := w0) (p := p) (A := A) [123] ⟨#[123]⟩ false rfl hsz h123)
  have HT46 := Lib.hid (take_v (w0 := w0) (p := p) (A := A) 46 ⟨#[46]⟩ false rfl hsz h46)
  have HTnever := Lib.hid (on_v (w0 := w0) (p := p) (A := A) ([42, 43, 63, 93, 125, 47]) ⟨#[42, 43, 63, 93, 125, 47]⟩ true rfl hsz hnever)
  have HF := Lib.hid hfF
  have SK : Hid (∀ V, Rr w0 V p s A st → V.cell? ⟨p, 1, none⟩ = some (.int .i64 (st.pos : Int)) ∧ V.cell? ⟨0, 0, none⟩ = some EF) := Lib.hid (fun V h' => ⟨h'.cells.2.1, hgF V _ h'⟩)
  have SK2 : Hid (∀ V, Rr w0 V p s A (fail st st.pos 4) → V.cell? ⟨p, 1, none⟩ = some (.int .i64 (st.pos : Int)) ∧ V.cell? ⟨0, 0, none⟩ = some EF) := Lib.hid (fun V h' => ⟨by rw [h'.cells.2.1, fail_pos], hgF V _ h'⟩)
  clear h a1 hW1 h40 h91 h123 h46 hnever hfF hgF hEF
  go_enter Tryd.func134, Tryd.ntmps134
  go_upto_region 1 with (fail)
  rw [HW1.out]
  try rw [HR.out]
  clear hR
  go_wp2_with fail
  refine (HT40.out _ H1.out.rr).mono ?_
  rintro _ w2 ⟨rfl, hr, hm⟩
  have H2 := Lib.hid (H1.out.step (st' := st) hr hm)
  clear hr hm
  go_wp2_with fail
  refine (HT91.out _ H2.out.rr).mono ?_
  rintro _ w3 ⟨rfl, m3, hw3⟩
  have H3 : Hid (At w0 W w3 p s A st R) := Lib.hid (by rw [hw3]; exact H2.out.drewN m3)
  clear hw3
  go_wp2_with fail
  refine (HT123.out _ H3.out.rr).mono ?_
  rintro _ w4 ⟨rfl, m4, hw4⟩
  have H4 : Hid (At w0 W w4 p s A st R) := Lib.hid (by rw [hw4]; exact H3.out.drewN m4)
  clear hw4
  go_wp2_with fail
  refine (HT46.out _ H4.out.rr).mono ?_
  rintro _ w5 ⟨rfl, hr, hm⟩
  have H5 := Lib.hid (H4.out.step (st' := st) hr hm)
  clear hr hm
  go_wp2_with fail
  refine (HTnever.out _ H5.out.rr).mono ?_
  rintro _ w6 ⟨rfl, m6, hw6⟩
  have H6 : Hid (At w0 W w6 p s A st R) := Lib.hid (by rw [hw6]; exact H5.out.drewN m6)
  clear hw6
  go_wp2_with fail
  refine wp_region_noPanic ?_
  refine wp_region_held_drew (S := fun V => V.cell? ⟨p, 1, none⟩ = some (.int .i64 (st.pos : Int)) ∧ V.cell? ⟨0, 0, none⟩ = some EF) (by kernel_rfl) (SK.out _ H6.out.rr.drew) (fun hHeld => ?_)
  (refine wpAnyH_take (i := 0) (v := ?v0n1) (by simp only [List.getElem?_toArray, List.getElem?_cons_succ, List.getElem?_cons_zero]; rfl) (by kernel_rfl) (by kernel_rfl) (by kernel_rfl) (fun _ _ _ h => False.elim h) (Or.inl ⟨by rfl, ?hy0n1⟩) (by assumption) ?rest0n1; (case hy0n1 => (intro w hSw; (try dsimp only at hSw); go_simp; (try with_reducible rfl))); (try simp only [Act.put, List.setIfInBounds_toArray, List.set_cons_zero, List.set_cons_succ]))
  (refine wpAnyH_take (i := 1) (v := ?v1n2) (by simp only [List.getElem?_toArray, List.getElem?_cons_succ, List.getElem?_cons_zero]; rfl) (by kernel_rfl) (by kernel_rfl) (by kernel_rfl) (fun _ _ _ h => False.elim h) (Or.inl ⟨by rfl, ?hy1n2⟩) (by assumption) ?rest1n2; (case hy1n2 => (intro w hSw; (try dsimp only at hSw); go_simp; (try with_reducible rfl))); (try simp only [Act.put, List.setIfInBounds_toArray, List.set_cons_zero, List.set_cons_succ]))
  (refine wpAnyH_take (i := 2) (v := ?v2n3) (by simp only [List.getElem?_toArray, List.getElem?_cons_succ, List.getElem?_cons_zero]; rfl) (by kernel_rfl) (by kernel_rfl) (by kernel_rfl) (fun _ _ _ h => False.elim h) (Or.inl ⟨by rfl, ?hy2n3⟩) (by assumption) ?rest2n3; (case hy2n3 => (intro w hSw; (try dsimp only at hSw); go_simp; (try with_reducible rfl))); (try simp only [Act.put, List.setIfInBounds_toArray, List.set_cons_zero, List.set_cons_succ]))
  (refine wpAnyH_take (i := 3) (v := ?v3n4) (by simp only [List.getElem?_toArray, List.getElem?_cons_succ, List.getElem?_cons_zero]; rfl) (by kernel_rfl) (by kernel_rfl) (by kernel_rfl) (fun _ _ _ h => False.elim h) (Or.inl ⟨by rfl, ?hy3n4⟩) (by assumption) ?rest3n4; (case hy3n4 => (intro w hSw; (try dsimp only at hSw); go_simp; (try with_reducible rfl))); (try simp only [Act.put, List.setIfInBounds_toArray, List.set_cons_zero, List.set_cons_succ]))
  (refine wpAnyH_take (i := 4) (v := ?v4n5) (by simp only [List.getElem?_toArray, List.getElem?_cons_succ, List.getElem?_cons_zero]; rfl) (by kernel_rfl) (by kernel_rfl) (by kernel_rfl) (fun _ _ _ h => False.elim h) (Or.inl ⟨by rfl, ?hy4n5⟩) (by assumption) ?rest4n5; (case hy4n5 => (intro w hSw; (try dsimp only at hSw); go_simp; (try with_reducible rfl))); (try simp only [Act.put, List.setIfInBounds_toArray, List.set_cons_zero, List.set_cons_succ]))
  (refine wpAnyH_take (i := 5) (v := ?v5n6) (by simp only [List.getElem?_toArray, List.getElem?_cons_succ, List.getElem?_cons_zero]; rfl) (by kernel_rfl) (by kernel_rfl) (by kernel_rfl) (fun _ _ _ h => False.elim h) (Or.inl ⟨by rfl, ?hy5n6⟩) (by assumption) ?rest5n6; (case hy5n6 => (intro w hSw; (try dsimp only at hSw); go_simp; (try with_reducible rfl))); (try simp only [Act.put, List.setIfInBounds_toArray, List.set_cons_zero, List.set_cons_succ]))
  (refine wpAnyH_ready (rs := [6]) (by kernel_rfl) (by simp) ?_; refine AllReadyH.cons (o := _) (by simp only [List.getElem?_toArray, List.getElem?_cons_succ, List.getElem?_cons_zero]; rfl) (fun K hK => ?_) AllReadyH.nil; go_simp; ((with_reducible refine (HF.out _ H6.out.rr.drew).mono ?_); rintro _ w9 ⟨rfl, hr7, hm7⟩); refine hK.out _ _ (by exact SK2.out _ hr7) (fun hHeld => ?_); clear hK K; (try simp only [Act.put, List.setIfInBounds_toArray, List.set_cons_zero, List.set_cons_succ]))
  refine wpAnyH_done (by kernel_rfl) ?_ _
  refine NoPanic.normal ?_
  have h9 := H6.out.drew.step hr7 hm7
  clear hr7 hm7 hHeld
  have hb9 : Bl (fun q => W.heap.size ≤ q ∧ q ≠ R) zero := leaf_bl _ _ _ _ _ _ _ _ _
  have hf : (put9 w9 R (.int .i64 0) (.int .u64 0) (.int .u64 0) (.int .u64 0) (.int .u64 0) (.slice none 0 0) (.int .i64 0) (.int .i64 0) (.string ⟨#[]⟩)).heap[R]? = some (.cells #[.int .i64 0, .int .u64 0, .int .u64 0, .int .u64 0, .int .u64 0, .slice none 0 0, .int .i64 0, .int .i64 0, .string ⟨#[]⟩] 27 (0, 0)) ∧ NdP w0 W p s A (zero, fail st st.pos 4) (.returned (.agg #[.int .i64 0, .int .u64 0, .int .u64 0, .int .u64 0, .int .u64 0, .slice none 0 0, .int .i64 0, .int .i64 0, .string ⟨#[]⟩])) (put9 w9 R (.int .i64 0) (.int .u64 0) (.int .u64 0) (.int .u64 0) (.int .u64 0) (.slice none 0 0) (.int .i64 0) (.int .i64 0) (.string ⟨#[]⟩)) :=
    h9.fin (k := 0) (mn := 0) (mx := 0) (x0 := 0) (x1 := 0) (x2 := 0) (x3 := 0) (nl := 0) (c := 0) (a := none) (t := []) (ks := []) rfl (leaf_is _ _ _ _ _ _ _ _ _ _) hb9
  obtain ⟨⟨d0, d1, d2, d3, d4, d5, d6, d7, d8⟩, g0, g1, g2, g3, g4, g5, g6, g7, g8⟩ := z9_cells h9.z
  have HPb := Lib.hid hf.1
  have HFin := Lib.hid hf.2
  clear hf h9 hb9
  go_wp2
  ((try simp only [Exit.inBlock, Exit.then]); refine bodyPost_ret (results_cell_row rfl _ _ (R) 27 _ (0, 0) _ rfl (HPb.out) Tryd.underlying27 rfl ?hi3) rfl ?_; (case hi3 => kernel_rfl))
  exact HFin.out
set_option maxRecDepth 100000 in
set_option maxHeartbeats 8000000 in
theorem atom_brk (hsz : s.size ≤ 1000000) (h40 : on s.data.toList st [40] = false) (h91 : on s.data.toList st [91] = true) (h : Rr w0 W p s A st) : Calls Tryd.prog 134 #[.pointer (some ⟨p, 0, none⟩)] W (NdP w0 W p s A (bts (brd s.data.toList st.pos).1, ⟨(brd s.data.toList st.pos).2.1, (brd s.data.toList st.pos).2.2⟩)) := by
  have hlt := on_lt h91
  rw [← size_list] at hlt
  obtain ⟨he0, hlt⟩ := hlt
  have hsub : ∀ V, Rr w0 V p s A st → Sent 204 V A bks := fun V h' => (h'.hs.keep h'.B).sub (by simp [bks, rgs])
  have hgo := brd_go s.data.toList st.pos (by rw [← size_list]; omega)
  rw [← size_list] at hgo
  obtain ⟨f, Q, g, hbr⟩ : ∃ f Q g, brd s.data.toList st.pos = (f, Q, g) := ⟨_, _, _, rfl⟩
  rw [hbr] at hgo ⊢
  simp only at hgo ⊢
  obtain ⟨x0, x1, x2, x3, hw⟩ := four (wOf_len f)
  have hbt : bts f = .mk 1 [x0, x1, x2, x3] 0 0 [] none 0 [] := by unfold bts; rw [hw]
  have hrd : ∀ V, Rr w0 V p s A st → Calls Tryd.prog 149 #[.string s, .int .i64 (st.pos : Int)] V fun e w' => e = .returned (.tuple #[.agg #[.int .u64 (x0 : Int), .int .u64 (x1 : Int), .int .u64 (x2 : Int), .int .u64 (x3 : Int)], .int .i64 (Q : Int), ee A (g : Int)]) ∧ Below V.heap.size V w' := fun V h' => (Bk.read_at (i := st.pos) hsz (hsub V h')).mono fun e w' hx => by
    rw [hbr] at hx
    obtain ⟨rs, h1, h2, h3⟩ := hx
    rw [← wOf_of h2, hw, evb_ee A hgo.2] at h1
    exact ⟨h1, h3⟩
  have hfl : ∀ V, g ≠ 0 → Rr w0 V p s A ⟨Q, 0⟩ → Calls Tryd.prog 49 #[.pointer (some ⟨p, 0, none⟩), .int .i64 (Q : Int), ee A (g : Int)] V fun r w' => r = .returned (.tuple #[]) ∧ Rr w0 w' p s A ⟨Q, g⟩ ∧ Mod [p] V w' := fun V hg h' => fail_c Q g hg h'
  have a1 := At.new h
  obtain ⟨W1, hW1⟩ : ∃ W1, W.alloc Z9 = W1 := ⟨_, rfl⟩
  rw [hW1] at a1
  have HW1 := Lib.hid (show W.alloc (.cells #[.int .i64 0, .int .u64 0, .int .u64 0, .int .u64 0, .int .u64 0, .slice none 0 0, .int .i64 0, .int .i64 0, .string ⟨#[]⟩] 27) = W1 from hW1)
  obtain ⟨R, hR⟩ : ∃ R, W.heap.size = R := ⟨_, rfl⟩
  rw [hR] at a1
  have HR := Lib.hid hR
  have H1 := Lib.hid a1
  have HT40 := Lib.hid (take_v (w0 := w0) (p := p) (A := A) 40 ⟨#[40]⟩ false rfl hsz h40)
  have HT91 := Lib.hid (on_v (w0 := w0) (p := p) (A := A) [91] ⟨#[91]⟩ true rfl hsz h91)
  have HRd := Lib.hid hrd
  have HFl := Lib.hid hfl
  have HBy := Lib.hid (bytes_w _ hw)
  have SK : Hid (∀ V, Rr w0 V p s A st → V.cell? ⟨p, 0, none⟩ = some (.string s) ∧ V.cell? ⟨p, 1, none⟩ = some (.int .i64 (st.pos : Int))) := Lib.hid (fun V h' => ⟨h'.cells.1, h'.cells.2.1⟩)
  have HE0 := Lib.hid he0
  rw [hbt]
  clear h a1 hW1 h40 h91 hrd hfl hw hbt hsub hgo hbr he0
  go_enter Tryd.func134, Tryd.ntmps134
  go_upto_region 1 with (fail)
  rw [HW1.out]
  try rw [HR.out]
  clear hR
  go_wp2_with fail
  refine (HT40.out _ H1.out.rr).mono ?_
  rintro _ w2 ⟨rfl, hr, hm⟩
  have H2 := Lib.hid (H1.out.step (st' := st) hr hm)
  clear hr hm
  go_wp2_with fail
  refine (HT91.out _ H2.out.rr).mono ?_
  rintro _ w3 ⟨rfl, m3, hw3⟩
  have H3 : Hid (At w0 W w3 p s A st R) := Lib.hid (by rw [hw3]; exact H2.out.drewN m3)
  clear hw3
  go_upto_region 7 with (fail)
  obtain ⟨wo, hwo⟩ : ∃ x, x = w3 := ⟨_, rfl⟩
  subst hwo
  go_cut [4, 5, 6] (fun v4 v5 v6 V => ∃ b4, v4 = .pointer (some ⟨b4, 0, none⟩) ∧ v5 = .int .i64 (Q : Int) ∧ v6 = ee A (g : Int) ∧ At w0 W V p s A st R ∧ Ab V b4 x0 x1 x2 x3 ∧ b4 ≠ p)
  case first =>
    have hlt := H3.out.lt
    have Z0 : Below wo.heap.size wo (wo.alloc (.cells #[.int .u64 0, .int .u64 0, .int .u64 0, .int .u64 0] 24)) := (Below.refl _ _).alloc (Nat.le_refl _) _
    refine wp_region_noPanic ?_
    refine wp_region_held_drew (S := fun V => V.cell? ⟨p, 0, none⟩ = some (.string s) ∧ V.cell? ⟨p, 1, none⟩ = some (.int .i64 (st.pos : Int))) (by kernel_rfl) (SK.out _ H3.out.rr.drew) (fun hHeld => ?_)
    (refine wpAnyH_take (i := 0) (v := ?v0n7) (by simp only [List.getElem?_toArray, List.getElem?_cons_succ, List.getElem?_cons_zero]; rfl) (by kernel_rfl) (by kernel_rfl) (by kernel_rfl) (fun _ _ _ h => False.elim h) (Or.inl ⟨by rfl, ?hy0n7⟩) (by assumption) ?rest0n7; (case hy0n7 => (intro w hSw; (try dsimp only at hSw); go_simp; (try with_reducible rfl))); (try simp only [Act.put, List.setIfInBounds_toArray, List.set_cons_zero, List.set_cons_succ]))
    (refine wpAnyH_take (i := 1) (v := ?v1n8) (by simp only [List.getElem?_toArray, List.getElem?_cons_succ, List.getElem?_cons_zero]; rfl) (by kernel_rfl) (by kernel_rfl) (by kernel_rfl) (fun _ _ _ h => False.elim h) (Or.inl ⟨by rfl, ?hy1n8⟩) (by assumption) ?rest1n8; (case hy1n8 => (intro w hSw; (try dsimp only at hSw); go_simp; (try with_reducible rfl))); (try simp only [Act.put, List.setIfInBounds_toArray, List.set_cons_zero, List.set_cons_succ]))
    (refine wpAnyH_take (i := 2) (v := ?v2n9) (by simp only [List.getElem?_toArray, List.getElem?_cons_succ, List.getElem?_cons_zero]; rfl) (by kernel_rfl) (by kernel_rfl) (by kernel_rfl) (fun _ _ _ h => False.elim h) (Or.inl ⟨by rfl, ?hy2n9⟩) (by assumption) ?rest2n9; (case hy2n9 => (intro w hSw; (try dsimp only at hSw); go_simp; (try with_reducible rfl))); (try simp only [Act.put, List.setIfInBounds_toArray, List.set_cons_zero, List.set_cons_succ]))
    (refine wpAnyH_take (i := 3) (v := ?v3n10) (by simp only [List.getElem?_toArray, List.getElem?_cons_succ, List.getElem?_cons_zero]; rfl) (by kernel_rfl) (by kernel_rfl) (by kernel_rfl) (fun _ _ _ h => False.elim h) (Or.inl ⟨by rfl, ?hy3n10⟩) (by assumption) ?rest3n10; (case hy3n10 => (intro w hSw; (try dsimp only at hSw); go_simp; (try with_reducible rfl))); (try simp only [Act.put, List.setIfInBounds_toArray, List.set_cons_zero, List.set_cons_succ]))
    (refine wpAnyH_take (i := 4) (v := ?v4n11) (by simp only [List.getElem?_toArray, List.getElem?_cons_succ, List.getElem?_cons_zero]; rfl) (by kernel_rfl) (by kernel_rfl) (by kernel_rfl) (fun _ _ _ h => False.elim h) (Or.inl ⟨by rfl, ?hy4n11⟩) (by assumption) ?rest4n11; (case hy4n11 => (intro w hSw; (try dsimp only at hSw); go_simp; (try with_reducible rfl))); (try simp only [Act.put, List.setIfInBounds_toArray, List.set_cons_zero, List.set_cons_succ]))
    (refine wpAnyH_take (i := 5) (v := ?v5n12) (by simp only [List.getElem?_toArray, List.getElem?_cons_succ, List.getElem?_cons_zero]; rfl) (by kernel_rfl) (by kernel_rfl) (by kernel_rfl) (fun _ _ _ h => False.elim h) (Or.inl ⟨by rfl, ?hy5n12⟩) (by assumption) ?rest5n12; (case hy5n12 => (intro w hSw; (try dsimp only at hSw); go_simp; (try with_reducible rfl))); (try simp only [Act.put, List.setIfInBounds_toArray, List.set_cons_zero, List.set_cons_succ]))
    (refine wpAnyH_take (i := 6) (v := ?v6n13) (by simp only [List.getElem?_toArray, List.getElem?_cons_succ, List.getElem?_cons_zero]; rfl) (by kernel_rfl) (by kernel_rfl) (by kernel_rfl) (fun _ _ _ h => False.elim h) (Or.inl ⟨by rfl, ?hy6n13⟩) (by assumption) ?rest6n13; (case hy6n13 => (intro w hSw; (try dsimp only at hSw); go_simp; (try with_reducible rfl))); (try simp only [Act.put, List.setIfInBounds_toArray, List.set_cons_zero, List.set_cons_succ]))
    (refine wpAnyH_take (i := 7) (v := ?v7n14) (by simp only [List.getElem?_toArray, List.getElem?_cons_succ, List.getElem?_cons_zero]; rfl) (by kernel_rfl) (by kernel_rfl) (by kernel_rfl) (fun _ _ _ h => False.elim h) (Or.inl ⟨by rfl, ?hy7n14⟩) (by assumption) ?rest7n14; (case hy7n14 => (intro w hSw; (try dsimp only at hSw); go_simp; (try with_reducible rfl))); (try simp only [Act.put, List.setIfInBounds_toArray, List.set_cons_zero, List.set_cons_succ]))
    refine wpAnyH_ready (rs := [8, 13]) (by kernel_rfl) (by simp) ?_
    refine AllReadyH.cons (o := _) (by simp only [List.getElem?_toArray, List.getElem?_cons_succ, List.getElem?_cons_zero]; rfl) (fun K hK => ?_) ?_
    · (go_simp; ((with_reducible refine (HRd.out _ H3.out.rr.drew).mono ?_); rintro _ w5 ⟨rfl, hb5⟩; have a5 := H3.out.drew.below hb5); refine hK.out _ _ (by exact SK.out _ a5.rr) (fun hHeld => ?_); clear hK K; (try simp only [Act.put, List.setIfInBounds_toArray, List.set_cons_zero, List.set_cons_succ]))
      (refine wpAnyH_take (i := 9) (v := ?v9n15) (by simp only [List.getElem?_toArray, List.getElem?_cons_succ, List.getElem?_cons_zero]; rfl) (by kernel_rfl) (by kernel_rfl) (by kernel_rfl) (fun _ _ _ h => False.elim h) (Or.inl ⟨by rfl, ?hy9n15⟩) (by assumption) ?rest9n15; (case hy9n15 => (intro w hSw; (try dsimp only at hSw); go_simp; (try with_reducible rfl))); (try simp only [Act.put, List.setIfInBounds_toArray, List.set_cons_zero, List.set_cons_succ]))
      (refine wpAnyH_take (i := 10) (v := ?v10n16) (by simp only [List.getElem?_toArray, List.getElem?_cons_succ, List.getElem?_cons_zero]; rfl) (by kernel_rfl) (by kernel_rfl) (by kernel_rfl) (fun _ _ _ h => False.elim h) (Or.inl ⟨by rfl, ?hy10n16⟩) (by assumption) ?rest10n16; (case hy10n16 => (intro w hSw; (try dsimp only at hSw); go_simp; (try with_reducible rfl))); (try simp only [Act.put, List.setIfInBounds_toArray, List.set_cons_zero, List.set_cons_succ]))
      (refine wpAnyH_take (i := 11) (v := ?v11n17) (by simp only [List.getElem?_toArray, List.getElem?_cons_succ, List.getElem?_cons_zero]; rfl) (by kernel_rfl) (by kernel_rfl) (by kernel_rfl) (fun _ _ _ h => False.elim h) (Or.inl ⟨by rfl, ?hy11n17⟩) (by assumption) ?rest11n17; (case hy11n17 => (intro w hSw; (try dsimp only at hSw); go_simp; (try with_reducible rfl))); (try simp only [Act.put, List.setIfInBounds_toArray, List.set_cons_zero, List.set_cons_succ]))
      (refine wpAnyH_take (i := 12) (v := ?v12n18) (by simp only [List.getElem?_toArray, List.getElem?_cons_succ, List.getElem?_cons_zero]; rfl) (by kernel_rfl) (by kernel_rfl) (by kernel_rfl) (fun _ _ _ h => False.elim h) (Or.inl ⟨by rfl, ?hy12n18⟩) (by assumption) ?rest12n18; (case hy12n18 => (intro w hSw; (try dsimp only at hSw); go_simp; (try with_reducible rfl))); (try simp only [Act.put, List.setIfInBounds_toArray, List.set_cons_zero, List.set_cons_succ]))
      have l5 := a5.lt
      have B5 : Below w5.heap.size w5 (w5.alloc (.cells #[.int .u64 0, .int .u64 0, .int .u64 0, .int .u64 0] 24)) := (Below.refl _ _).alloc (Nat.le_refl _) _
      have a6 := a5.below B5
      have hab : Ab (w5.alloc (.cells #[.int .u64 0, .int .u64 0, .int .u64 0, .int .u64 0] 24)) w5.heap.size 0 0 0 0 := World.alloc_heap_new _ _
      obtain ⟨⟨k0, k1, k2, k3⟩, f0, f1, f2, f3⟩ := hab.cells
      have B7 : Below w5.heap.size w5 (w5.alloc (.cells #[.int .u64 (x0 : Int), .int .u64 (x1 : Int), .int .u64 (x2 : Int), .int .u64 (x3 : Int)] 24)) := (Below.refl _ _).alloc (Nat.le_refl _) _
      have a7 := a5.below B7
      have hab7 : Ab (w5.alloc (.cells #[.int .u64 (x0 : Int), .int .u64 (x1 : Int), .int .u64 (x2 : Int), .int .u64 (x3 : Int)] 24)) w5.heap.size x0 x1 x2 x3 := World.alloc_heap_new _ _
      (refine wpAnyH_ready (rs := [13]) (by kernel_rfl) (by simp) ?_; refine AllReadyH.cons (o := _) (by simp only [List.getElem?_toArray, List.getElem?_cons_succ, List.getElem?_cons_zero]; rfl) (fun K hK => ?_) AllReadyH.nil; go_simp; (skip); refine hK.out _ _ (by exact SK.out _ a6.rr) (fun hHeld => ?_); clear hK K; (try simp only [Act.put, List.setIfInBounds_toArray, List.set_cons_zero, List.set_cons_succ]))
      (refine wpAnyH_ready (rs := [14]) (by kernel_rfl) (by simp) ?_; refine AllReadyH.cons (o := _) (by simp only [List.getElem?_toArray, List.getElem?_cons_succ, List.getElem?_cons_zero]; rfl) (fun K hK => ?_) AllReadyH.nil; go_simp; (skip); refine hK.out _ _ (by exact SK.out _ a7.rr) (fun hHeld => ?_); clear hK K; (try simp only [Act.put, List.setIfInBounds_toArray, List.set_cons_zero, List.set_cons_succ]))
      (refine wpAnyH_take (i := 15) (v := ?v15n19) (by simp only [List.getElem?_toArray, List.getElem?_cons_succ, List.getElem?_cons_zero]; rfl) (by kernel_rfl) (by kernel_rfl) (by kernel_rfl) (fun _ _ _ h => False.elim h) (Or.inl ⟨by rfl, ?hy15n19⟩) (by assumption) ?rest15n19; (case hy15n19 => (intro w hSw; (try dsimp only at hSw); go_simp; (try with_reducible rfl))); (try simp only [Act.put, List.setIfInBounds_toArray, List.set_cons_zero, List.set_cons_succ]))
      (refine wpAnyH_take (i := 16) (v := ?v16n20) (by simp only [List.getElem?_toArray, List.getElem?_cons_succ, List.getElem?_cons_zero]; rfl) (by kernel_rfl) (by kernel_rfl) (by kernel_rfl) (fun _ _ _ h => False.elim h) (Or.inl ⟨by rfl, ?hy16n20⟩) (by assumption) ?rest16n20; (case hy16n20 => (intro w hSw; (try dsimp only at hSw); go_simp; (try with_reducible rfl))); (try simp only [Act.put, List.setIfInBounds_toArray, List.set_cons_zero, List.set_cons_succ]))
      refine wpAnyH_done (by kernel_rfl) ?_ _
      refine NoPanic.normal ?_
      have HA7 := Lib.hid (And.intro a7 (And.intro hab7 (show w5.heap.size ≠ p by omega)))
      clear a5 l5 B5 B7 a6 hab a7 hab7 k0 k1 k2 k3 f0 f1 f2 f3 hHeld hb5 Z0
      go_wp2
      go_meet
      exact ⟨w5.heap.size, rfl, rfl, rfl, HA7.out⟩
    · refine AllReadyH.cons (o := _) (by simp only [List.getElem?_toArray, List.getElem?_cons_succ, List.getElem?_cons_zero]; rfl) (fun K hK => ?_) AllReadyH.nil
      have a6 := (H3.out.below Z0).drew
      have hab : Ab (wo.alloc (.cells #[.int .u64 0, .int .u64 0, .int .u64 0, .int .u64 0] 24)).drew wo.heap.size 0 0 0 0 := World.alloc_heap_new wo _
      (go_simp; (skip); refine hK.out _ _ (by exact SK.out _ a6.rr) (fun hHeld => ?_); clear hK K; (try simp only [Act.put, List.setIfInBounds_toArray, List.set_cons_zero, List.set_cons_succ]))
      (refine wpAnyH_ready (rs := [8]) (by kernel_rfl) (by simp) ?_; refine AllReadyH.cons (o := _) (by simp only [List.getElem?_toArray, List.getElem?_cons_succ, List.getElem?_cons_zero]; rfl) (fun K hK => ?_) AllReadyH.nil; go_simp; ((with_reducible refine (HRd.out _ a6.rr).mono ?_); rintro _ w5 ⟨rfl, hb5⟩; have a5 := a6.below hb5); refine hK.out _ _ (by exact SK.out _ a5.rr) (fun hHeld => ?_); clear hK K; (try simp only [Act.put, List.setIfInBounds_toArray, List.set_cons_zero, List.set_cons_succ]))
      (refine wpAnyH_take (i := 9) (v := ?v9n21) (by simp only [List.getElem?_toArray, List.getElem?_cons_succ, List.getElem?_cons_zero]; rfl) (by kernel_rfl) (by kernel_rfl) (by kernel_rfl) (fun _ _ _ h => False.elim h) (Or.inl ⟨by rfl, ?hy9n21⟩) (by assumption) ?rest9n21; (case hy9n21 => (intro w hSw; (try dsimp only at hSw); go_simp; (try with_reducible rfl))); (try simp only [Act.put, List.setIfInBounds_toArray, List.set_cons_zero, List.set_cons_succ]))
      (refine wpAnyH_take (i := 10) (v := ?v10n22) (by simp only [List.getElem?_toArray, List.getElem?_cons_succ, List.getElem?_cons_zero]; rfl) (by kernel_rfl) (by kernel_rfl) (by kernel_rfl) (fun _ _ _ h => False.elim h) (Or.inl ⟨by rfl, ?hy10n22⟩) (by assumption) ?rest10n22; (case hy10n22 => (intro w hSw; (try dsimp only at hSw); go_simp; (try with_reducible rfl))); (try simp only [Act.put, List.setIfInBounds_toArray, List.set_cons_zero, List.set_cons_succ]))
      (refine wpAnyH_take (i := 11) (v := ?v11n23) (by simp only [List.getElem?_toArray, List.getElem?_cons_succ, List.getElem?_cons_zero]; rfl) (by kernel_rfl) (by kernel_rfl) (by kernel_rfl) (fun _ _ _ h => False.elim h) (Or.inl ⟨by rfl, ?hy11n23⟩) (by assumption) ?rest11n23; (case hy11n23 => (intro w hSw; (try dsimp only at hSw); go_simp; (try with_reducible rfl))); (try simp only [Act.put, List.setIfInBounds_toArray, List.set_cons_zero, List.set_cons_succ]))
      (refine wpAnyH_take (i := 12) (v := ?v12n24) (by simp only [List.getElem?_toArray, List.getElem?_cons_succ, List.getElem?_cons_zero]; rfl) (by kernel_rfl) (by kernel_rfl) (by kernel_rfl) (fun _ _ _ h => False.elim h) (Or.inl ⟨by rfl, ?hy12n24⟩) (by assumption) ?rest12n24; (case hy12n24 => (intro w hSw; (try dsimp only at hSw); go_simp; (try with_reducible rfl))); (try simp only [Act.put, List.setIfInBounds_toArray, List.set_cons_zero, List.set_cons_succ]))
      have hab5 := hab.below hb5
      obtain ⟨⟨k0, k1, k2, k3⟩, f0, f1, f2, f3⟩ := hab5.cells
      have a7 := a5.put4 (b := wo.heap.size) (by omega) (by omega) (by omega) x0 x1 x2 x3
      have hab7 := hab5.put x0 x1 x2 x3
      (refine wpAnyH_ready (rs := [14]) (by kernel_rfl) (by simp) ?_; refine AllReadyH.cons (o := _) (by simp only [List.getElem?_toArray, List.getElem?_cons_succ, List.getElem?_cons_zero]; rfl) (fun K hK => ?_) AllReadyH.nil; go_simp; (skip); refine hK.out _ _ (by exact SK.out _ a7.rr) (fun hHeld => ?_); clear hK K; (try simp only [Act.put, List.setIfInBounds_toArray, List.set_cons_zero, List.set_cons_succ]))
      (refine wpAnyH_take (i := 15) (v := ?v15n25) (by simp only [List.getElem?_toArray, List.getElem?_cons_succ, List.getElem?_cons_zero]; rfl) (by kernel_rfl) (by kernel_rfl) (by kernel_rfl) (fun _ _ _ h => False.elim h) (Or.inl ⟨by rfl, ?hy15n25⟩) (by assumption) ?rest15n25; (case hy15n25 => (intro w hSw; (try dsimp only at hSw); go_simp; (try with_reducible rfl))); (try simp only [Act.put, List.setIfInBounds_toArray, List.set_cons_zero, List.set_cons_succ]))
      (refine wpAnyH_take (i := 16) (v := ?v16n26) (by simp only [List.getElem?_toArray, List.getElem?_cons_succ, List.getElem?_cons_zero]; rfl) (by kernel_rfl) (by kernel_rfl) (by kernel_rfl) (fun _ _ _ h => False.elim h) (Or.inl ⟨by rfl, ?hy16n26⟩) (by assumption) ?rest16n26; (case hy16n26 => (intro w hSw; (try dsimp only at hSw); go_simp; (try with_reducible rfl))); (try simp only [Act.put, List.setIfInBounds_toArray, List.set_cons_zero, List.set_cons_succ]))
      refine wpAnyH_done (by kernel_rfl) ?_ _
      refine NoPanic.normal ?_
      have HA7 := Lib.hid (And.intro a7 (And.intro hab7 (show wo.heap.size ≠ p by omega)))
      clear a5 a6 hab hab5 a7 hab7 k0 k1 k2 k3 f0 f1 f2 f3 hHeld hb5 Z0
      go_wp2
      go_meet
      exact ⟨wo.heap.size, rfl, rfl, rfl, HA7.out⟩
  case rest =>
    obtain ⟨b4, rfl, rfl, rfl, h4, hAb, hbp⟩ := hcut
    have hp5 := h4.rr.setPos Q
    have hab5 : Ab (wc.setCell ⟨p, 1, none⟩ (.int .i64 (Q : Int))) b4 x0 x1 x2 x3 := hAb.mod hp5.2 (by simpa using hbp)
    have a5 := h4.step hp5.1 hp5.2
    rw [HE0.out] at a5
    obtain ⟨q0, q1, q2, f1, f2⟩ := h4.rr.cells
    obtain ⟨w5, hw5⟩ : ∃ x, wc.setCell ⟨p, 1, none⟩ (.int .i64 (Q : Int)) = x := ⟨_, rfl⟩
    rw [hw5] at a5 hab5
    have H5 := Lib.hid a5
    have HAb := Lib.hid hab5
    clear hp5 hab5 a5 h4 hAb
    go_upto_region 9 with (fail)
    try rw [hw5]
    clear q0 q1 q2 f1 f2 hw5
    by_cases hg : g = 0
    · have hgv : ee A (g : Int) = .nilIface := by rw [hg]; rfl
      rw [hgv]
      obtain ⟨⟨k0, k1, k2, k3⟩, _⟩ := HAb.out.cells
      subst hg
      clear hgv
      go_wp2_with fail
      refine (HBy.out _).mono ?_
      rintro _ w9 ⟨rfl, hb9'⟩
      have h9 := H5.out.below hb9'
      clear hb9' k0 k1 k2 k3
      have hb9 : Bl (fun q => W.heap.size ≤ q ∧ q ≠ R) (.mk 1 [x0, x1, x2, x3] 0 0 [] none 0 []) := leaf_bl _ _ _ _ _ _ _ _ _
      have hf := h9.fin (t := []) (ks := []) rfl (leaf_is _ _ _ _ _ _ _ _ _ _) hb9
      obtain ⟨⟨d0, d1, d2, d3, d4, d5, d6, d7, d8⟩, g0, g1, g2, g3, g4, g5, g6, g7, g8⟩ := z9_cells h9.z
      have HPb := Lib.hid hf.1
      have HFin := Lib.hid hf.2
      clear hf h9 hb9
      go_wp2
      ((try simp only [Exit.inBlock, Exit.then]); refine bodyPost_ret (results_cell_row rfl _ _ (R) 27 _ (0, 0) _ rfl (HPb.out) Tryd.underlying27 rfl ?hi4) rfl ?_; (case hi4 => kernel_rfl))
      exact HFin.out
    · obtain ⟨ae, hgv⟩ := ee_some A hg
      have HFl2 := Lib.hid (HFl.out w5 hg H5.out.rr)
      rw [hgv] at HFl2
      rw [hgv]
      go_wp2_with fail
      refine HFl2.out.mono ?_
      rintro _ w6 ⟨rfl, hr6, hm6⟩
      have h6 := H5.out.step hr6 hm6
      have hab6 := HAb.out.mod hm6 (by simpa using hbp)
      obtain ⟨⟨k0, k1, k2, k3⟩, _⟩ := hab6.cells
      have H6 := Lib.hid h6
      clear h6 hr6 hm6 hab6 hgv
      go_wp2_with fail
      refine (HBy.out _).mono ?_
      rintro _ w9 ⟨rfl, hb9'⟩
      have h9 := H6.out.below hb9'
      clear hb9' k0 k1 k2 k3
      have hb9 : Bl (fun q => W.heap.size ≤ q ∧ q ≠ R) (.mk 1 [x0, x1, x2, x3] 0 0 [] none 0 []) := leaf_bl _ _ _ _ _ _ _ _ _
      have hf := h9.fin (t := []) (ks := []) rfl (leaf_is _ _ _ _ _ _ _ _ _ _) hb9
      obtain ⟨⟨d0, d1, d2, d3, d4, d5, d6, d7, d8⟩, g0, g1, g2, g3, g4, g5, g6, g7, g8⟩ := z9_cells h9.z
      have HPb := Lib.hid hf.1
      have HFin := Lib.hid hf.2
      clear hf h9 hb9
      go_wp2
      ((try simp only [Exit.inBlock, Exit.then]); refine bodyPost_ret (results_cell_row rfl _ _ (R) 27 _ (0, 0) _ rfl (HPb.out) Tryd.underlying27 rfl ?hi5) rfl ?_; (case hi5 => kernel_rfl))
      exact HFin.out
set_option maxRecDepth 100000 in
set_option maxHeartbeats 8000000 in
theorem atom_plain (hsz : s.size ≤ 1000000) (hmore : st.err = 0 ∧ st.pos < s.size) (h40 : on s.data.toList st [40] = false) (h91 : on s.data.toList st [91] = false) (h123 : on s.data.toList st [123] = false) (h46 : on s.data.toList st [46] = false) (hnever : on s.data.toList st [42, 43, 63, 93, 125, 47] = false) (h : Rr w0 W p s A st) : Calls Tryd.prog 134 #[.pointer (some ⟨p, 0, none⟩)] W (NdP w0 W p s A (bts (fun q => decide (q = (rd s.data.toList st.pos).1.toNat)), ⟨(rd s.data.toList st.pos).2.1, (rd s.data.toList st.pos).2.2⟩)) := by
  obtain ⟨he0, hlt⟩ := hmore
  have hsub : ∀ V, Rr w0 V p s A st → Sent 204 V A spks := fun V h' => (h'.hs.keep h'.B).sub (by simp [spks, rgs])
  have hgo := rd_go s.data.toList st.pos (by rw [← size_list]; omega)
  rw [← size_list] at hgo
  obtain ⟨cv, Q, g, hbr⟩ : ∃ f Q g, rd s.data.toList st.pos = (f, Q, g) := ⟨_, _, _, rfl⟩
  rw [hbr] at hgo ⊢
  simp only at hgo ⊢
  obtain ⟨c, rfl⟩ : ∃ c : Nat, cv = (c : Int) := ⟨cv.toNat, by omega⟩
  rw [Int.toNat_natCast]
  obtain ⟨x0, x1, x2, x3, hw⟩ := four (wOf_len (fun q => decide (q = c)))
  have hbt : bts (fun q => decide (q = c)) = .mk 1 [x0, x1, x2, x3] 0 0 [] none 0 [] := by unfold bts; rw [hw]
  have hrd : ∀ V, Rr w0 V p s A st → Calls Tryd.prog 152 #[.string s, .int .i64 (st.pos : Int)] V fun e w' => e = .returned (.tuple #[.int .u8 (c : Int), .int .i64 (Q : Int), ee A (g : Int)]) ∧ Below V.heap.size V w' := fun V h' => (Sp.read_c A s st.pos hsz V (hsub V h')).mono fun e w' hx => by
    rw [hbr] at hx
    obtain ⟨h1, h3⟩ := hx
    unfold resR at h1
    rw [evn_ee A hgo.2.2.2.2] at h1
    exact ⟨h1, h3⟩
  have hone : ∀ V, Calls Tryd.prog 61 #[.int .u8 (c : Int)] V fun e w' => e = .returned (.agg #[.int .u64 (x0 : Int), .int .u64 (x1 : Int), .int .u64 (x2 : Int), .int .u64 (x3 : Int)]) ∧ Below V.heap.size V w' := fun V => (St.one_c c (by omega) V).mono fun e w' ⟨rs, h1, h2, h3⟩ => by
    rw [← wOf_of h2, hw] at h1
    exact ⟨h1, h3⟩
  have hfl : ∀ V, g ≠ 0 → Rr w0 V p s A ⟨Q, 0⟩ → Calls Tryd.prog 49 #[.pointer (some ⟨p, 0, none⟩), .int .i64 (Q : Int), ee A (g : Int)] V fun r w' => r = .returned (.tuple #[]) ∧ Rr w0 w' p s A ⟨Q, g⟩ ∧ Mod [p] V w' := fun V hg h' => fail_c Q g hg h'
  have a1 := At.new h
  obtain ⟨W1, hW1⟩ : ∃ W1, W.alloc Z9 = W1 := ⟨_, rfl⟩
  rw [hW1] at a1
  have HW1 := Lib.hid (show W.alloc (.cells #[.int .i64 0, .int .u64 0, .int .u64 0, .int .u64 0, .int .u64 0, .slice none 0 0, .int .i64 0, .int .i64 0, .string ⟨#[]⟩] 27) = W1 from hW1)
  obtain ⟨R, hR⟩ : ∃ R, W.heap.size = R := ⟨_, rfl⟩
  rw [hR] at a1
  have HR := Lib.hid hR
  have H1 := Lib.hid a1
  have HT40 := Lib.hid (take_v (w0 := w0) (p := p) (A := A) 40 ⟨#[40]⟩ false rfl hsz h40)
  have HT91 := Lib.hid (on_v (w0 := w0) (p := p) (A := A) [91] ⟨#[91]⟩ false rfl hsz h91)
  have HT123 := Lib.hid (on_v (w0 := w0) (p := p) (A := A) [123] ⟨#[123]⟩ false rfl hsz h123)
  have HT46 := Lib.hid (take_v (w0 := w0) (p := p) (A := A) 46 ⟨#[46]⟩ false rfl hsz h46)
  have HTnever := Lib.hid (on_v (w0 := w0) (p := p) (A := A) ([42, 43, 63, 93, 125, 47]) ⟨#[42, 43, 63, 93, 125, 47]⟩ false rfl hsz hnever)
  have HRd := Lib.hid hrd
  have HOne := Lib.hid hone
  have HFl := Lib.hid hfl
  have HBy := Lib.hid (bytes_w _ hw)
  have SK : Hid (∀ V, Rr w0 V p s A st → V.cell? ⟨p, 0, none⟩ = some (.string s) ∧ V.cell? ⟨p, 1, none⟩ = some (.int .i64 (st.pos : Int))) := Lib.hid (fun V h' => ⟨h'.cells.1, h'.cells.2.1⟩)
  have HE0 := Lib.hid he0
  rw [hbt]
  clear h a1 hW1 h40 h91 h123 h46 hnever hrd hone hfl hw hbt hsub hgo hbr he0
  go_enter Tryd.func134, Tryd.ntmps134
  go_upto_region 1 with (fail)
  rw [HW1.out]
  try rw [HR.out]
  clear hR
  go_wp2_with fail
  refine (HT40.out _ H1.out.rr).mono ?_
  rintro _ w2 ⟨rfl, hr, hm⟩
  have H2 := Lib.hid (H1.out.step (st' := st) hr hm)
  clear hr hm
  go_wp2_with fail
  refine (HT91.out _ H2.out.rr).mono ?_
  rintro _ w3 ⟨rfl, m3, hw3⟩
  have H3 : Hid (At w0 W w3 p s A st R) := Lib.hid (by rw [hw3]; exact H2.out.drewN m3)
  clear hw3
  go_wp2_with fail
  refine (HT123.out _ H3.out.rr).mono ?_
  rintro _ w4 ⟨rfl, m4, hw4⟩
  have H4 : Hid (At w0 W w4 p s A st R) := Lib.hid (by rw [hw4]; exact H3.out.drewN m4)
  clear hw4
  go_wp2_with fail
  refine (HT46.out _ H4.out.rr).mono ?_
  rintro _ w5 ⟨rfl, hr, hm⟩
  have H5 := Lib.hid (H4.out.step (st' := st) hr hm)
  clear hr hm
  go_wp2_with fail
  refine (HTnever.out _ H5.out.rr).mono ?_
  rintro _ w6 ⟨rfl, m6, hw6⟩
  have H6 : Hid (At w0 W w6 p s A st R) := Lib.hid (by rw [hw6]; exact H5.out.drewN m6)
  clear hw6
  go_wp2_with fail
  refine wp_region_noPanic ?_
  refine wp_region_held_drew (S := fun V => V.cell? ⟨p, 0, none⟩ = some (.string s) ∧ V.cell? ⟨p, 1, none⟩ = some (.int .i64 (st.pos : Int))) (by kernel_rfl) (SK.out _ H6.out.rr.drew) (fun hHeld => ?_)
  (refine wpAnyH_take (i := 0) (v := ?v0n27) (by simp only [List.getElem?_toArray, List.getElem?_cons_succ, List.getElem?_cons_zero]; rfl) (by kernel_rfl) (by kernel_rfl) (by kernel_rfl) (fun _ _ _ h => False.elim h) (Or.inl ⟨by rfl, ?hy0n27⟩) (by assumption) ?rest0n27; (case hy0n27 => (intro w hSw; (try dsimp only at hSw); go_simp; (try with_reducible rfl))); (try simp only [Act.put, List.setIfInBounds_toArray, List.set_cons_zero, List.set_cons_succ]))
  (refine wpAnyH_take (i := 1) (v := ?v1n28) (by simp only [List.getElem?_toArray, List.getElem?_cons_succ, List.getElem?_cons_zero]; rfl) (by kernel_rfl) (by kernel_rfl) (by kernel_rfl) (fun _ _ _ h => False.elim h) (Or.inl ⟨by rfl, ?hy1n28⟩) (by assumption) ?rest1n28; (case hy1n28 => (intro w hSw; (try dsimp only at hSw); go_simp; (try with_reducible rfl))); (try simp only [Act.put, List.setIfInBounds_toArray, List.set_cons_zero, List.set_cons_succ]))
  (refine wpAnyH_take (i := 2) (v := ?v2n29) (by simp only [List.getElem?_toArray, List.getElem?_cons_succ, List.getElem?_cons_zero]; rfl) (by kernel_rfl) (by kernel_rfl) (by kernel_rfl) (fun _ _ _ h => False.elim h) (Or.inl ⟨by rfl, ?hy2n29⟩) (by assumption) ?rest2n29; (case hy2n29 => (intro w hSw; (try dsimp only at hSw); go_simp; (try with_reducible rfl))); (try simp only [Act.put, List.setIfInBounds_toArray, List.set_cons_zero, List.set_cons_succ]))
  (refine wpAnyH_take (i := 3) (v := ?v3n30) (by simp only [List.getElem?_toArray, List.getElem?_cons_succ, List.getElem?_cons_zero]; rfl) (by kernel_rfl) (by kernel_rfl) (by kernel_rfl) (fun _ _ _ h => False.elim h) (Or.inl ⟨by rfl, ?hy3n30⟩) (by assumption) ?rest3n30; (case hy3n30 => (intro w hSw; (try dsimp only at hSw); go_simp; (try with_reducible rfl))); (try simp only [Act.put, List.setIfInBounds_toArray, List.set_cons_zero, List.set_cons_succ]))
  (refine wpAnyH_take (i := 4) (v := ?v4n31) (by simp only [List.getElem?_toArray, List.getElem?_cons_succ, List.getElem?_cons_zero]; rfl) (by kernel_rfl) (by kernel_rfl) (by kernel_rfl) (fun _ _ _ h => False.elim h) (Or.inl ⟨by rfl, ?hy4n31⟩) (by assumption) ?rest4n31; (case hy4n31 => (intro w hSw; (try dsimp only at hSw); go_simp; (try with_reducible rfl))); (try simp only [Act.put, List.setIfInBounds_toArray, List.set_cons_zero, List.set_cons_succ]))
  (refine wpAnyH_take (i := 5) (v := ?v5n32) (by simp only [List.getElem?_toArray, List.getElem?_cons_succ, List.getElem?_cons_zero]; rfl) (by kernel_rfl) (by kernel_rfl) (by kernel_rfl) (fun _ _ _ h => False.elim h) (Or.inl ⟨by rfl, ?hy5n32⟩) (by assumption) ?rest5n32; (case hy5n32 => (intro w hSw; (try dsimp only at hSw); go_simp; (try with_reducible rfl))); (try simp only [Act.put, List.setIfInBounds_toArray, List.set_cons_zero, List.set_cons_succ]))
  (refine wpAnyH_take (i := 6) (v := ?v6n33) (by simp only [List.getElem?_toArray, List.getElem?_cons_succ, List.getElem?_cons_zero]; rfl) (by kernel_rfl) (by kernel_rfl) (by kernel_rfl) (fun _ _ _ h => False.elim h) (Or.inl ⟨by rfl, ?hy6n33⟩) (by assumption) ?rest6n33; (case hy6n33 => (intro w hSw; (try dsimp only at hSw); go_simp; (try with_reducible rfl))); (try simp only [Act.put, List.setIfInBounds_toArray, List.set_cons_zero, List.set_cons_succ]))
  (refine wpAnyH_take (i := 7) (v := ?v7n34) (by simp only [List.getElem?_toArray, List.getElem?_cons_succ, List.getElem?_cons_zero]; rfl) (by kernel_rfl) (by kernel_rfl) (by kernel_rfl) (fun _ _ _ h => False.elim h) (Or.inl ⟨by rfl, ?hy7n34⟩) (by assumption) ?rest7n34; (case hy7n34 => (intro w hSw; (try dsimp only at hSw); go_simp; (try with_reducible rfl))); (try simp only [Act.put, List.setIfInBounds_toArray, List.set_cons_zero, List.set_cons_succ]))
  (refine wpAnyH_ready (rs := [8]) (by kernel_rfl) (by simp) ?_; refine AllReadyH.cons (o := _) (by simp only [List.getElem?_toArray, List.getElem?_cons_succ, List.getElem?_cons_zero]; rfl) (fun K hK => ?_) AllReadyH.nil; go_simp; ((with_reducible refine (HRd.out _ H6.out.rr.drew).mono ?_); rintro _ wc ⟨rfl, hb5⟩; have h4 := H6.out.drew.below hb5); refine hK.out _ _ (by exact SK.out _ h4.rr) (fun hHeld => ?_); clear hK K; (try simp only [Act.put, List.setIfInBounds_toArray, List.set_cons_zero, List.set_cons_succ]))
  (refine wpAnyH_take (i := 9) (v := ?v9n35) (by simp only [List.getElem?_toArray, List.getElem?_cons_succ, List.getElem?_cons_zero]; rfl) (by kernel_rfl) (by kernel_rfl) (by kernel_rfl) (fun _ _ _ h => False.elim h) (Or.inl ⟨by rfl, ?hy9n35⟩) (by assumption) ?rest9n35; (case hy9n35 => (intro w hSw; (try dsimp only at hSw); go_simp; (try with_reducible rfl))); (try simp only [Act.put, List.setIfInBounds_toArray, List.set_cons_zero, List.set_cons_succ]))
  (refine wpAnyH_take (i := 10) (v := ?v10n36) (by simp only [List.getElem?_toArray, List.getElem?_cons_succ, List.getElem?_cons_zero]; rfl) (by kernel_rfl) (by kernel_rfl) (by kernel_rfl) (fun _ _ _ h => False.elim h) (Or.inl ⟨by rfl, ?hy10n36⟩) (by assumption) ?rest10n36; (case hy10n36 => (intro w hSw; (try dsimp only at hSw); go_simp; (try with_reducible rfl))); (try simp only [Act.put, List.setIfInBounds_toArray, List.set_cons_zero, List.set_cons_succ]))
  (refine wpAnyH_take (i := 11) (v := ?v11n37) (by simp only [List.getElem?_toArray, List.getElem?_cons_succ, List.getElem?_cons_zero]; rfl) (by kernel_rfl) (by kernel_rfl) (by kernel_rfl) (fun _ _ _ h => False.elim h) (Or.inl ⟨by rfl, ?hy11n37⟩) (by assumption) ?rest11n37; (case hy11n37 => (intro w hSw; (try dsimp only at hSw); go_simp; (try with_reducible rfl))); (try simp only [Act.put, List.setIfInBounds_toArray, List.set_cons_zero, List.set_cons_succ]))
  (refine wpAnyH_take (i := 12) (v := ?v12n38) (by simp only [List.getElem?_toArray, List.getElem?_cons_succ, List.getElem?_cons_zero]; rfl) (by kernel_rfl) (by kernel_rfl) (by kernel_rfl) (fun _ _ _ h => False.elim h) (Or.inl ⟨by rfl, ?hy12n38⟩) (by assumption) ?rest12n38; (case hy12n38 => (intro w hSw; (try dsimp only at hSw); go_simp; (try with_reducible rfl))); (try simp only [Act.put, List.setIfInBounds_toArray, List.set_cons_zero, List.set_cons_succ]))
  (refine wpAnyH_take (i := 13) (v := ?v13n39) (by simp only [List.getElem?_toArray, List.getElem?_cons_succ, List.getElem?_cons_zero]; rfl) (by kernel_rfl) (by kernel_rfl) (by kernel_rfl) (fun _ _ _ h => False.elim h) (Or.inl ⟨by rfl, ?hy13n39⟩) (by assumption) ?rest13n39; (case hy13n39 => (intro w hSw; (try dsimp only at hSw); go_simp; (try with_reducible rfl))); (try simp only [Act.put, List.setIfInBounds_toArray, List.set_cons_zero, List.set_cons_succ]))
  (refine wpAnyH_take (i := 14) (v := ?v14n40) (by simp only [List.getElem?_toArray, List.getElem?_cons_succ, List.getElem?_cons_zero]; rfl) (by kernel_rfl) (by kernel_rfl) (by kernel_rfl) (fun _ _ _ h => False.elim h) (Or.inl ⟨by rfl, ?hy14n40⟩) (by assumption) ?rest14n40; (case hy14n40 => (intro w hSw; (try dsimp only at hSw); go_simp; (try with_reducible rfl))); (try simp only [Act.put, List.setIfInBounds_toArray, List.set_cons_zero, List.set_cons_succ]))
  (refine wpAnyH_take (i := 15) (v := ?v15n41) (by simp only [List.getElem?_toArray, List.getElem?_cons_succ, List.getElem?_cons_zero]; rfl) (by kernel_rfl) (by kernel_rfl) (by kernel_rfl) (fun _ _ _ h => False.elim h) (Or.inl ⟨by rfl, ?hy15n41⟩) (by assumption) ?rest15n41; (case hy15n41 => (intro w hSw; (try dsimp only at hSw); go_simp; (try with_reducible rfl))); (try simp only [Act.put, List.setIfInBounds_toArray, List.set_cons_zero, List.set_cons_succ]))
  refine wpAnyH_done (by kernel_rfl) ?_ _
  refine NoPanic.normal ?_
  have hp5 := h4.rr.setPos Q
  have a5 := h4.step hp5.1 hp5.2
  rw [HE0.out] at a5
  obtain ⟨q0, q1, q2, f1, f2⟩ := h4.rr.cells
  obtain ⟨w5, hw5⟩ : ∃ x, wc.setCell ⟨p, 1, none⟩ (.int .i64 (Q : Int)) = x := ⟨_, rfl⟩
  rw [hw5] at a5
  have H5 := Lib.hid a5
  clear hp5 a5 h4 hHeld hb5
  go_upto_region 21 with (fail)
  try rw [hw5]
  clear q0 q1 q2 f1 f2 hw5
  by_cases hg : g = 0
  · have hgv : ee A (g : Int) = .nilIface := by rw [hg]; rfl
    rw [hgv]
    subst hg
    clear hgv
    go_wp2_with fail
    refine (HOne.out _).mono ?_
    rintro _ w8 ⟨rfl, hb8⟩
    have H8 := Lib.hid (H5.out.below hb8)
    clear hb8
    go_wp2_with fail
    refine (HBy.out _).mono ?_
    rintro _ w9 ⟨rfl, hb9'⟩
    have h9 := H8.out.below hb9'
    clear hb9'
    have hb9 : Bl (fun q => W.heap.size ≤ q ∧ q ≠ R) (.mk 1 [x0, x1, x2, x3] 0 0 [] none 0 []) := leaf_bl _ _ _ _ _ _ _ _ _
    have hf := h9.fin (t := []) (ks := []) rfl (leaf_is _ _ _ _ _ _ _ _ _ _) hb9
    obtain ⟨⟨d0, d1, d2, d3, d4, d5, d6, d7, d8⟩, g0, g1, g2, g3, g4, g5, g6, g7, g8⟩ := z9_cells h9.z
    have HPb := Lib.hid hf.1
    have HFin := Lib.hid hf.2
    clear hf h9 hb9
    go_wp2
    ((try simp only [Exit.inBlock, Exit.then]); refine bodyPost_ret (results_cell_row rfl _ _ (R) 27 _ (0, 0) _ rfl (HPb.out) Tryd.underlying27 rfl ?hi6) rfl ?_; (case hi6 => kernel_rfl))
    exact HFin.out
  · obtain ⟨ae, hgv⟩ := ee_some A hg
    have HFl2 := Lib.hid (HFl.out w5 hg H5.out.rr)
    rw [hgv] at HFl2
    rw [hgv]
    go_wp2_with fail
    refine HFl2.out.mono ?_
    rintro _ w6 ⟨rfl, hr6, hm6⟩
    have H6 := Lib.hid (H5.out.step hr6 hm6)
    clear hr6 hm6 hgv
    go_wp2_with fail
    refine (HOne.out _).mono ?_
    rintro _ w8 ⟨rfl, hb8⟩
    have H8 := Lib.hid (H6.out.below hb8)
    clear hb8
    go_wp2_with fail
    refine (HBy.out _).mono ?_
    rintro _ w9 ⟨rfl, hb9'⟩
    have h9 := H8.out.below hb9'
    clear hb9'
    have hb9 : Bl (fun q => W.heap.size ≤ q ∧ q ≠ R) (.mk 1 [x0, x1, x2, x3] 0 0 [] none 0 []) := leaf_bl _ _ _ _ _ _ _ _ _
    have hf := h9.fin (t := []) (ks := []) rfl (leaf_is _ _ _ _ _ _ _ _ _ _) hb9
    obtain ⟨⟨d0, d1, d2, d3, d4, d5, d6, d7, d8⟩, g0, g1, g2, g3, g4, g5, g6, g7, g8⟩ := z9_cells h9.z
    have HPb := Lib.hid hf.1
    have HFin := Lib.hid hf.2
    clear hf h9 hb9
    go_wp2
    ((try simp only [Exit.inBlock, Exit.then]); refine bodyPost_ret (results_cell_row rfl _ _ (R) 27 _ (0, 0) _ rfl (HPb.out) Tryd.underlying27 rfl ?hi7) rfl ?_; (case hi7 => kernel_rfl))
    exact HFin.out
theorem cls_err {t : List UInt8} {s : S} (h : s.err ≠ 0) : cls t s = s := by
  have hm : more t s = false := by unfold more; rw [decide_eq_false h, Bool.false_and]
  unfold cls takeS on
  rw [if_neg (fun hh => h hh.1), hm]
  rfl
theorem cls_yes {t : List UInt8} {s : S} (h : on t s [41] = true) : cls t s = nx s := by
  unfold cls takeS
  rw [h, if_neg (by simp), if_pos rfl]
theorem cls_no {t : List UInt8} {s : S} (h0 : s.err = 0) (h : on t s [41] = false) : cls t s = fail s t.length 2 := by
  unfold cls
  rw [if_pos ⟨h0, h⟩]
set_option maxRecDepth 100000 in
set_option maxHeartbeats 8000000 in
theorem atom_paren (hsz : s.size ≤ 1000000) (ex : S → Nd × S) (hex : ∀ V, Rr w0 V p s A (nx st) → Calls Tryd.prog 47 #[.pointer (some ⟨p, 0, none⟩)] V (NdP w0 V p s A (ex (nx st)))) (h40 : on s.data.toList st [40] = true) (h : Rr w0 W p s A st) : Calls Tryd.prog 134 #[.pointer (some ⟨p, 0, none⟩)] W (NdP w0 W p s A ((ex (nx st)).1, cls s.data.toList (ex (nx st)).2)) := by
  obtain ⟨n2, s2, hx2⟩ : ∃ a b, ex (nx st) = (a, b) := ⟨_, _, rfl⟩
  rw [hx2] at hex ⊢
  simp only
  obtain ⟨O, hO⟩ : ∃ O, on s.data.toList s2 [41] = O := ⟨_, rfl⟩
  have ht2 := fun V => take_v (w0 := w0) (p := p) (A := A) 41 ⟨#[41]⟩ O rfl hsz hO V
  have hfS : ∀ V, Rr w0 V p s A s2 → Calls Tryd.prog 49 #[.pointer (some ⟨p, 0, none⟩), .int .i64 (s.size : Int), Er.ev A 4] V fun r w' => r = .returned (.tuple #[]) ∧ Rr w0 w' p s A (fail s2 s.size 2) ∧ Mod [p] V w' := fun V h' => by rw [ee_short]; exact fail_c s.size 2 (by decide) h'
  have hgS : ∀ V st', Rr w0 V p s A st' → V.cell? ⟨4, 0, none⟩ = some (Er.ev A 4) := fun V st' h' => h'.sent _ (by simp [rgs])
  obtain ⟨ES, hES⟩ : ∃ E, Er.ev A 4 = E := ⟨_, rfl⟩
  rw [hES] at hfS hgS
  have hcl : (s2.err ≠ 0 → cls s.data.toList s2 = s2) ∧ (O = true → cls s.data.toList s2 = nx s2) ∧ (s2.err = 0 → O = false → cls s.data.toList s2 = fail s2 s.size 2) := ⟨cls_err, fun h => cls_yes (hO.trans h), fun h1 h2 => by rw [size_list]; exact cls_no h1 (hO.trans h2)⟩
  have a1 := At.new h
  obtain ⟨W1, hW1⟩ : ∃ W1, W.alloc Z9 = W1 := ⟨_, rfl⟩
  rw [hW1] at a1
  have HW1 := Lib.hid (show W.alloc (.cells #[.int .i64 0, .int .u64 0, .int .u64 0, .int .u64 0, .int .u64 0, .slice none 0 0, .int .i64 0, .int .i64 0, .string ⟨#[]⟩] 27) = W1 from hW1)
  obtain ⟨R, hR⟩ : ∃ R, W.heap.size = R := ⟨_, rfl⟩
  rw [hR] at a1
  have HR := Lib.hid hR
  have H1 := Lib.hid a1
  have HT40 := Lib.hid (take_v (w0 := w0) (p := p) (A := A) 40 ⟨#[40]⟩ true rfl hsz h40)
  have HEx := Lib.hid hex
  have HT2 := Lib.hid ht2
  have HfS := Lib.hid hfS
  have SK : Hid (∀ V st', Rr w0 V p s A st' → V.cell? ⟨p, 0, none⟩ = some (.string s) ∧ V.cell? ⟨4, 0, none⟩ = some ES) := Lib.hid (fun V st' h' => ⟨h'.cells.1, hgS V st' h'⟩)
  have HCl := Lib.hid hcl
  clear h a1 hW1 h40 hex ht2 hfS hgS hES hcl hO hx2
  go_enter Tryd.func134, Tryd.ntmps134
  go_upto_region 1 with (fail)
  rw [HW1.out]
  try rw [HR.out]
  clear hR
  go_wp2_with fail
  refine (HT40.out _ H1.out.rr).mono ?_
  rintro _ w2 ⟨rfl, hr, hm⟩
  have H2 := Lib.hid (H1.out.step (st' := nx st) hr hm)
  clear hr hm
  go_wp2_with fail
  refine (HEx.out _ H2.out.rr).mono ?_
  rintro _ w3 ⟨m, rfl, hme, hI, hb, hr, hm⟩
  have h3 := H2.out.step hr hm
  have hbb : Bl (fun q => W.heap.size ≤ q ∧ q ≠ R) m := hb.mono fun q (hq : _ ≤ q) => by have := H2.out.lt; omega
  obtain ⟨x0, x1, x2, x3, hs4⟩ := four hI.len
  obtain ⟨k, sx, mn, mx, t, a, c, ks⟩ := m
  simp only [Nd.set] at hs4
  subst hs4
  obtain ⟨nl, hnl⟩ : ∃ nl, ks.length = nl := ⟨_, rfl⟩
  have hnv : nv (.mk k [x0, x1, x2, x3] mn mx t a c ks) = .agg #[.int .i64 k, .int .u64 (x0 : Int), .int .u64 (x1 : Int), .int .u64 (x2 : Int), .int .u64 (x3 : Int), .slice a nl c, .int .i64 mn, .int .i64 mx, .string (Str t)] := by rw [← hnl]; rfl
  rw [hnv]
  obtain ⟨W4, hW4⟩ : ∃ x, w3.alloc (.cells #[.int .i64 k, .int .u64 (x0 : Int), .int .u64 (x1 : Int), .int .u64 (x2 : Int), .int .u64 (x3 : Int), .slice a nl c, .int .i64 mn, .int .i64 mx, .string (Str t)] 27) = x := ⟨_, rfl⟩
  have b4 : Below w3.heap.size w3 W4 := by rw [← hW4]; exact (Below.refl _ _).alloc (Nat.le_refl _) _
  have s4 : W4.heap[w3.heap.size]? = some (.cells #[.int .i64 k, .int .u64 (x0 : Int), .int .u64 (x1 : Int), .int .u64 (x2 : Int), .int .u64 (x3 : Int), .slice a nl c, .int .i64 mn, .int .i64 mx, .string (Str t)] 27 (0, 0)) := by rw [← hW4]; exact World.alloc_heap_new _ _
  have h4 := h3.below b4
  obtain ⟨X, hX⟩ : ∃ X, w3.heap.size = X := ⟨_, rfl⟩
  rw [hX] at s4
  have hpX : p ≠ X := by have := h3.lt; omega
  have HBx : Hid (∀ V, Mod [p] W4 V → V.heap[X]? = some (.cells #[.int .i64 k, .int .u64 (x0 : Int), .int .u64 (x1 : Int), .int .u64 (x2 : Int), .int .u64 (x3 : Int), .slice a nl c, .int .i64 mn, .int .i64 mx, .string (Str t)] 27 (0, 0))) := Lib.hid (fun V hV => (hV.block X (block_lt s4) (by simpa using fun e => hpX e.symm)).trans s4)
  have HI : Hid (∀ V, Mod [p] W4 V → Tr.Is V.heap.size V (.mk k [x0, x1, x2, x3] mn mx t a c ks)) := Lib.hid (fun V hV => Is.mono (Nat.le_trans b4.size hV.size) (Is.modB hV (Is.below b4 hI) (hb.mono fun q (hq : _ ≤ q) => by have := H2.out.lt; simp; omega)))
  have HBb := Lib.hid hbb
  have HMe := Lib.hid hme
  have H4 := Lib.hid h4
  have HW4 := Lib.hid hW4
  have HX := Lib.hid hX
  obtain ⟨q0, q1, q2, f1, f2⟩ := h4.rr.cells
  clear h3 hbb hnv b4 s4 h4 hme hI hb hr hm hpX
  go_upto_region 3 with (fail)
  try rw [HW4.out]
  try rw [HX.out]
  clear hX hW4
  by_cases he : s2.err = 0
  · have hev : ee A (s2.err : Int) = .nilIface := by rw [he]; rfl
    rw [hev] at q2
    cases O with
    | true =>
      have HC : Hid (cls s.data.toList s2 = nx s2) := Lib.hid (HCl.out.2.1 rfl)
      clear hev HCl
      go_wp2_with fail
      refine (HT2.out _ H4.out.rr).mono ?_
      rintro _ w6 ⟨rfl, hr6, hm6⟩
      have H6 := Lib.hid (And.intro (H4.out.step (st' := nx s2) hr6 hm6) hm6)
      clear hr6 hm6 q0 q1 q2 f1 f2
      have h9 := H6.out.1
      have hf := h9.fin hnl (Is.mono (Nat.le_refl _) (HI.out _ H6.out.2)) HBb.out
      rw [HMe.out] at hf
      obtain ⟨e0, e1, e2, e3, e4, e5, e6, e7, e8⟩ := nd_cells (HBx.out _ H6.out.2)
      obtain ⟨⟨d0, d1, d2, d3, d4, d5, d6, d7, d8⟩, g0, g1, g2, g3, g4, g5, g6, g7, g8⟩ := z9_cells h9.z
      have HPb := Lib.hid hf.1
      have HFin := Lib.hid hf.2
      clear hf h9
      go_wp2
      ((try simp only [Exit.inBlock, Exit.then]); refine bodyPost_ret (results_cell_row rfl _ _ (R) 27 _ (0, 0) _ rfl (HPb.out) Tryd.underlying27 rfl ?hi8) rfl ?_; (case hi8 => kernel_rfl))
      rw [HC.out]
      exact HFin.out
    | false =>
      have HC : Hid (cls s.data.toList s2 = fail s2 s.size 2) := Lib.hid (HCl.out.2.2 he rfl)
      clear hev HCl
      go_wp2_with fail
      refine (HT2.out _ H4.out.rr).mono ?_
      rintro _ w6 ⟨rfl, hr6, hm6⟩
      have H6 := Lib.hid (And.intro (H4.out.step (st' := s2) hr6 hm6) hm6)
      clear hr6 hm6 q0 q1 q2 f1 f2
      go_wp2_with fail
      refine wp_region_noPanic ?_
      refine wp_region_held_drew (S := fun V => V.cell? ⟨p, 0, none⟩ = some (.string s) ∧ V.cell? ⟨4, 0, none⟩ = some ES) (by kernel_rfl) (SK.out _ _ H6.out.1.rr.drew) (fun hHeld => ?_)
      (refine wpAnyH_take (i := 0) (v := ?v0n42) (by simp only [List.getElem?_toArray, List.getElem?_cons_succ, List.getElem?_cons_zero]; rfl) (by kernel_rfl) (by kernel_rfl) (by kernel_rfl) (fun _ _ _ h => False.elim h) (Or.inl ⟨by rfl, ?hy0n42⟩) (by assumption) ?rest0n42; (case hy0n42 => (intro w hSw; (try dsimp only at hSw); go_simp; (try with_reducible rfl))); (try simp only [Act.put, List.setIfInBounds_toArray, List.set_cons_zero, List.set_cons_succ]))
      (refine wpAnyH_take (i := 1) (v := ?v1n43) (by simp only [List.getElem?_toArray, List.getElem?_cons_succ, List.getElem?_cons_zero]; rfl) (by kernel_rfl) (by kernel_rfl) (by kernel_rfl) (fun _ _ _ h => False.elim h) (Or.inl ⟨by rfl, ?hy1n43⟩) (by assumption) ?rest1n43; (case hy1n43 => (intro w hSw; (try dsimp only at hSw); go_simp; (try with_reducible rfl))); (try simp only [Act.put, List.setIfInBounds_toArray, List.set_cons_zero, List.set_cons_succ]))
      (refine wpAnyH_take (i := 2) (v := ?v2n44) (by simp only [List.getElem?_toArray, List.getElem?_cons_succ, List.getElem?_cons_zero]; rfl) (by kernel_rfl) (by kernel_rfl) (by kernel_rfl) (fun _ _ _ h => False.elim h) (Or.inl ⟨by rfl, ?hy2n44⟩) (by assumption) ?rest2n44; (case hy2n44 => (intro w hSw; (try dsimp only at hSw); go_simp; (try with_reducible rfl))); (try simp only [Act.put, List.setIfInBounds_toArray, List.set_cons_zero, List.set_cons_succ]))
      (refine wpAnyH_take (i := 3) (v := ?v3n45) (by simp only [List.getElem?_toArray, List.getElem?_cons_succ, List.getElem?_cons_zero]; rfl) (by kernel_rfl) (by kernel_rfl) (by kernel_rfl) (fun _ _ _ h => False.elim h) (Or.inl ⟨by rfl, ?hy3n45⟩) (by assumption) ?rest3n45; (case hy3n45 => (intro w hSw; (try dsimp only at hSw); go_simp; (try with_reducible rfl))); (try simp only [Act.put, List.setIfInBounds_toArray, List.set_cons_zero, List.set_cons_succ]))
      (refine wpAnyH_take (i := 4) (v := ?v4n46) (by simp only [List.getElem?_toArray, List.getElem?_cons_succ, List.getElem?_cons_zero]; rfl) (by kernel_rfl) (by kernel_rfl) (by kernel_rfl) (fun _ _ _ h => False.elim h) (Or.inl ⟨by rfl, ?hy4n46⟩) (by assumption) ?rest4n46; (case hy4n46 => (intro w hSw; (try dsimp only at hSw); go_simp; (try with_reducible rfl))); (try simp only [Act.put, List.setIfInBounds_toArray, List.set_cons_zero, List.set_cons_succ]))
      (refine wpAnyH_take (i := 5) (v := ?v5n47) (by simp only [List.getElem?_toArray, List.getElem?_cons_succ, List.getElem?_cons_zero]; rfl) (by kernel_rfl) (by kernel_rfl) (by kernel_rfl) (fun _ _ _ h => False.elim h) (Or.inl ⟨by rfl, ?hy5n47⟩) (by assumption) ?rest5n47; (case hy5n47 => (intro w hSw; (try dsimp only at hSw); go_simp; (try with_reducible rfl))); (try simp only [Act.put, List.setIfInBounds_toArray, List.set_cons_zero, List.set_cons_succ]))
      (refine wpAnyH_take (i := 6) (v := ?v6n48) (by simp only [List.getElem?_toArray, List.getElem?_cons_succ, List.getElem?_cons_zero]; rfl) (by kernel_rfl) (by kernel_rfl) (by kernel_rfl) (fun _ _ _ h => False.elim h) (Or.inl ⟨by rfl, ?hy6n48⟩) (by assumption) ?rest6n48; (case hy6n48 => (intro w hSw; (try dsimp only at hSw); go_simp; (try with_reducible rfl))); (try simp only [Act.put, List.setIfInBounds_toArray, List.set_cons_zero, List.set_cons_succ]))
      (refine wpAnyH_ready (rs := [7]) (by kernel_rfl) (by simp) ?_; refine AllReadyH.cons (o := _) (by simp only [List.getElem?_toArray, List.getElem?_cons_succ, List.getElem?_cons_zero]; rfl) (fun K hK => ?_) AllReadyH.nil; go_simp; ((with_reducible refine (HfS.out _ H6.out.1.rr.drew).mono ?_); rintro _ w7 ⟨rfl, hr7, hm7⟩); refine hK.out _ _ (by exact SK.out _ _ hr7) (fun hHeld => ?_); clear hK K; (try simp only [Act.put, List.setIfInBounds_toArray, List.set_cons_zero, List.set_cons_succ]))
      refine wpAnyH_done (by kernel_rfl) ?_ _
      refine NoPanic.normal ?_
      have H7 := Lib.hid (And.intro (H6.out.1.drew.step hr7 hm7) (H6.out.2.drew.trans hm7 (fun x hx => .inl hx)))
      clear hr7 hm7 hHeld
      have h9 := H7.out.1
      have hf := h9.fin hnl (Is.mono (Nat.le_refl _) (HI.out _ H7.out.2)) HBb.out
      rw [HMe.out] at hf
      obtain ⟨e0, e1, e2, e3, e4, e5, e6, e7, e8⟩ := nd_cells (HBx.out _ H7.out.2)
      obtain ⟨⟨d0, d1, d2, d3, d4, d5, d6, d7, d8⟩, g0, g1, g2, g3, g4, g5, g6, g7, g8⟩ := z9_cells h9.z
      have HPb := Lib.hid hf.1
      have HFin := Lib.hid hf.2
      clear hf h9
      go_wp2
      ((try simp only [Exit.inBlock, Exit.then]); refine bodyPost_ret (results_cell_row rfl _ _ (R) 27 _ (0, 0) _ rfl (HPb.out) Tryd.underlying27 rfl ?hi9) rfl ?_; (case hi9 => kernel_rfl))
      rw [HC.out]
      exact HFin.out
  · have HC : Hid (cls s.data.toList s2 = s2) := Lib.hid (HCl.out.1 he)
    obtain ⟨ae, hev⟩ := ee_some A he
    rw [hev] at q2
    clear hev HCl
    have h9 := H4.out
    have hf := h9.fin hnl (Is.mono (Nat.le_refl _) (HI.out _ (Mod.refl _ _))) HBb.out
    rw [HMe.out] at hf
    obtain ⟨e0, e1, e2, e3, e4, e5, e6, e7, e8⟩ := nd_cells (HBx.out _ (Mod.refl _ _))
    obtain ⟨⟨d0, d1, d2, d3, d4, d5, d6, d7, d8⟩, g0, g1, g2, g3, g4, g5, g6, g7, g8⟩ := z9_cells h9.z
    have HPb := Lib.hid hf.1
    have HFin := Lib.hid hf.2
    clear hf h9
    go_wp2
    ((try simp only [Exit.inBlock, Exit.then]); refine bodyPost_ret (results_cell_row rfl _ _ (R) 27 _ (0, 0) _ rfl (HPb.out) Tryd.underlying27 rfl ?hi10) rfl ?_; (case hi10 => kernel_rfl))
    rw [HC.out]
    exact HFin.out
end Rx
end Go.Proofs.YtoeeddfinmfnoaaDoor
