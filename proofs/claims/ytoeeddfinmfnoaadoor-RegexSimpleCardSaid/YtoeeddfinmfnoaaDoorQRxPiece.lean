import Derived.Test.YtoeeddfinmfnoaaDoorQRxAtom
import Derived.Test.YtoeeddfinmfnoaaDoorQRxSt9
/- The walks of package regex's reader: atom whole, piece. -/
namespace Go.Proofs.YtoeeddfinmfnoaaDoor
namespace Kt
end Kt
namespace Sp
end Sp
namespace St
end St
namespace Bk
end Bk
namespace Bo
end Bo
namespace Tr
end Tr
open Go Go.RowKit Kt Sp St Bk Bo Tr
namespace Rx
variable {w0 W V V' : World} {p R X : Nat} {s : ByteArray} {A : Nat → Addr} {st st' : S} {m : Nd}
theorem atom_c (hsz : s.size ≤ 1000000) (ex : S → Nd × S) (hmore : st.err = 0 ∧ st.pos < s.size) (hex : on s.data.toList st [40] = true → ∀ V, Rr w0 V p s A (nx st) → Calls Tryd.prog 47 #[.pointer (some ⟨p, 0, none⟩)] V (NdP w0 V p s A (ex (nx st)))) (h : Rr w0 W p s A st) : Calls Tryd.prog 134 #[.pointer (some ⟨p, 0, none⟩)] W (NdP w0 W p s A (atm ex s.data.toList st)) := by
  unfold atm
  by_cases h1 : on s.data.toList st [40] = true
  · rw [if_pos h1]
    exact atom_paren hsz ex (hex h1) h1 h
  · rw [if_neg h1]
    have h1 := Bool.eq_false_iff.2 h1
    by_cases h2 : on s.data.toList st [91] = true
    · rw [if_pos h2]
      exact atom_brk hsz h1 h2 h
    · rw [if_neg h2]
      have h2 := Bool.eq_false_iff.2 h2
      by_cases h3 : on s.data.toList st [123] = true
      · rw [if_pos h3]
        exact atom_name hsz hmore.2 h1 h2 h3 h
      · rw [if_neg h3]
        have h3 := Bool.eq_false_iff.2 h3
        by_cases h4 : on s.data.toList st [46] = true
        · rw [if_pos h4]
          exact atom_dot hsz h1 h2 h3 h4 h
        · rw [if_neg h4]
          have h4 := Bool.eq_false_iff.2 h4
          by_cases h5 : on s.data.toList st never = true
          · rw [if_pos h5]
            exact atom_never hsz h1 h2 h3 h4 h5 h
          · rw [if_neg h5]
            have h5 := Bool.eq_false_iff.2 h5
            exact atom_plain hsz hmore h1 h2 h3 h4 h5 h
/-- Another block of one's own turns. -/
theorem At.other {T : List Nat} (h : At w0 W V p s A st R) (hM : Mod T V V') (hT : ∀ x ∈ T, W.heap.size ≤ x ∧ x ≠ p ∧ x ≠ R) : At w0 W V' p s A st R := by
  have h1 := h.hw
  have hp : p ∉ T := fun hm => (hT p hm).2.1 rfl
  have hR : R ∉ T := fun hm => (hT R hm).2.2 rfl
  exact ⟨⟨(hM.block p h.rr.blk hp).trans h.rr.hp, h.rr.B.trans (hM.toBelow h.rr.B.size (fun x hx => by have := (hT x hx).1; omega)), h.rr.l, h.rr.hs⟩, h.mod.trans hM (fun x hx => .inr (hT x hx).1), (hM.block R (block_lt h.z) hR).trans h.z, h.hR, h.hp, h.hw, h.hpw⟩
/-- A tree whose node lies in the block X. -/
structure Bq (W V : World) (p R X : Nat) (m : Nd) : Prop where
  blk : V.heap[X]? = some (.cells (cells m).toArray 27 (0, 0))
  is : Tr.Is V.heap.size V m
  out : Bl (fun q => W.heap.size ≤ q ∧ q ≠ R ∧ q ≠ X) m
  hX : W.heap.size ≤ X ∧ X ≠ R
  hp : p < W.heap.size
theorem Bq.mod (h : Bq W V p R X m) (hM : Mod [p] V V') : Bq W V' p R X m := by
  have h1 := h.hX
  have h2 := h.hp
  exact ⟨(hM.block X (block_lt h.blk) (by simp; omega)).trans h.blk, Is.mono hM.size (Is.modB hM h.is (h.out.mono fun q hq => by simp; omega)), h.out, h.hX, h.hp⟩
theorem Bq.below (h : Bq W V p R X m) (hb : Below V.heap.size V V') : Bq W V' p R X m := h.mod (Mod.of_below hb _)
theorem Bq.cells (h : Bq W V p R X m) : ∃ (k mn mx : Int) (x0 x1 x2 x3 nl c : Nat) (a : Option Addr) (t : List UInt8) (ks : List Nd), m = .mk k [x0, x1, x2, x3] mn mx t a c ks ∧ ks.length = nl ∧ V.heap[X]? = some (.cells #[.int .i64 k, .int .u64 (x0 : Int), .int .u64 (x1 : Int), .int .u64 (x2 : Int), .int .u64 (x3 : Int), .slice a nl c, .int .i64 mn, .int .i64 mx, .string (Str t)] 27 (0, 0)) := by
  obtain ⟨x0, x1, x2, x3, hs4⟩ := four h.is.len
  have hb := h.blk
  obtain ⟨k, sx, mn, mx, t, a, c, ks⟩ := m
  simp only [Nd.set] at hs4
  subst hs4
  exact ⟨k, mn, mx, x0, x1, x2, x3, ks.length, c, a, t, ks, rfl, rfl, hb⟩
/-- The tree is put into a node of the kind Rep. -/
theorem Bq.rep {k mn mx : Int} {x0 x1 x2 x3 nl c : Nat} {a : Option Addr} {t : List UInt8} {ks : List Nd} (h : Bq W V p R X (.mk k [x0, x1, x2, x3] mn mx t a c ks)) (hn : ks.length = nl) (mn' mx' : Int) (hR : R < V.heap.size) :
    let V1 := V.alloc (.cells #[.int .i64 k, .int .u64 (x0 : Int), .int .u64 (x1 : Int), .int .u64 (x2 : Int), .int .u64 (x3 : Int), .slice a nl c, .int .i64 mn, .int .i64 mx, .string (Str t)] 27)
    let V2 := put9 V1 X (.int .i64 4) (.int .u64 0) (.int .u64 0) (.int .u64 0) (.int .u64 0) (.slice (some ⟨V.heap.size, 0, none⟩) 1 1) (.int .i64 mn') (.int .i64 mx') (.string ⟨#[]⟩)
    Bq W V2 p R X (.mk 4 [0, 0, 0, 0] mn' mx' [] (some ⟨V.heap.size, 0, none⟩) 1 [.mk k [x0, x1, x2, x3] mn mx t a c ks]) ∧ Mod [X] V V2 := by
  intro V1 V2
  subst hn
  have hlt := block_lt h.blk
  have b1 : Below V.heap.size V V1 := (Below.refl _ _).alloc (Nat.le_refl _) _
  have hz : V1.heap.size = V.heap.size + 1 := by simp [V1]
  have h1 := h.below b1
  have m2 : Mod [X] V1 V2 := put9_mod _ _ _ _ _ _ _ _ _ _ _
  have hrow : V1.heap[V.heap.size]? = some (.cells (Tr.cells (.mk k [x0, x1, x2, x3] mn mx t a c ks)).toArray 27 (0, 0)) := heap_alloc_new V _
  have hrow2 := (m2.block V.heap.size (by omega) (by simp; omega)).trans hrow
  have hX := h.hX
  have hWV : W.heap.size ≤ V.heap.size := by omega
  refine ⟨⟨put9_block (show _ = some (Obj.cells #[.int .i64 k, .int .u64 (x0 : Int), .int .u64 (x1 : Int), .int .u64 (x2 : Int), .int .u64 (x3 : Int), .slice a ks.length c, .int .i64 mn, .int .i64 mx, .string (Str t)] _ _) from h1.blk) _ _ _ _ _ _ _ _ _, ?_, ?_, h.hX, h.hp⟩, (Mod.of_below b1 [X]).trans m2 (fun x hx => .inl hx)⟩
  · have hn2 := Is.mono m2.size (Is.modB m2 h1.is (h.out.mono fun x hx => by simp; omega))
    refine ⟨rfl, Nat.le_refl _, by decide, (fun e => by cases e), ?_, (fun q hp _ => by cases hp; show V.heap.size < _; have := m2.size; omega), hn2, trivial⟩
    intro i x hi
    refine ⟨_, _, rfl, ?_⟩
    rw [cell_block hrow2, Nat.zero_add]
    simpa using hi
  · exact ⟨fun q hp _ => by cases hp; show _ ∧ V.heap.size ≠ R ∧ V.heap.size ≠ X; exact ⟨hWV, by omega, by omega⟩, h.out, trivial⟩
def errN (W : World) (p : Nat) : Nat := match W.cell? ⟨p, 2, none⟩ with | some .nilIface => 1 | _ => 0
theorem Rr.errN (h : Rr w0 W p s A st) : errN W p = if st.err = 0 then 1 else 0 := by
  unfold Rx.errN
  rw [h.cells.2.2.1]
  by_cases he : st.err = 0
  · rw [if_pos he, he]; rfl
  · obtain ⟨a, ha⟩ := ee_some A he
    rw [if_neg he, ha]
/-- What is left to read. -/
def left (n : Nat) (W : World) (p : Nat) : Nat := errN W p * (n + 1 - cellP W p)
theorem left_lt {n : Nat} {W W' : World} {st st' : S} (h : Rr w0 W p s A st) (h' : Rr w0 W' p s A st') (hn : st.pos < n) (hp : st'.err = 0 → st.err = 0 ∧ st.pos < st'.pos) (he : st.err = 0) : left n W' p < left n W p := by
  unfold left
  rw [h.errN, h'.errN, h.cellP, h'.cellP, if_pos he]
  by_cases he' : st'.err = 0
  · rw [if_pos he']
    have := (hp he').2
    omega
  · rw [if_neg he']
    omega
theorem pcL_star {t : List UInt8} {k : Nat} {s : S} {n : Nd} (h : on t s [42] = true) : pcL t (k + 1) s n = pcL t k (nx s) (rep 0 (-1) n) := by
  conv => lhs; unfold pcL
  rw [if_pos h]
theorem pcL_plus {t : List UInt8} {k : Nat} {s : S} {n : Nd} (h1 : on t s [42] = false) (h : on t s [43] = true) : pcL t (k + 1) s n = pcL t k (nx s) (rep 1 (-1) n) := by
  conv => lhs; unfold pcL
  rw [if_neg (by rw [h1]; simp), if_pos h]
theorem pcL_quest {t : List UInt8} {k : Nat} {s : S} {n : Nd} (h1 : on t s [42] = false) (h2 : on t s [43] = false) (h : on t s [63] = true) : pcL t (k + 1) s n = pcL t k (nx s) (rep 0 1 n) := by
  conv => lhs; unfold pcL
  rw [if_neg (by rw [h1]; simp), if_neg (by rw [h2]; simp), if_pos h]
theorem pcL_bnd {t : List UInt8} {k : Nat} {s : S} {n : Nd} (h1 : on t s [42] = false) (h2 : on t s [43] = false) (h3 : on t s [63] = false) (h : bounded t s = true) : pcL t (k + 1) s n = pcL t k (bounds t s).2.2 (rep ((bounds t s).1 : Int) (bounds t s).2.1 n) := by
  conv => lhs; unfold pcL
  rw [if_neg (by rw [h1]; simp), if_neg (by rw [h2]; simp), if_neg (by rw [h3]; simp), if_pos h]
theorem pcL_end {t : List UInt8} {k : Nat} {s : S} {n : Nd} (h1 : on t s [42] = false) (h2 : on t s [43] = false) (h3 : on t s [63] = false) (h : bounded t s = false) : pcL t (k + 1) s n = (n, s) := by
  conv => lhs; unfold pcL
  rw [if_neg (by rw [h1]; simp), if_neg (by rw [h2]; simp), if_neg (by rw [h3]; simp), if_neg (by rw [h]; simp)]
set_option maxRecDepth 100000 in
set_option maxHeartbeats 8000000 in
theorem piece_c (hsz : s.size ≤ 1000000) (ex : S → Nd × S) (hat : ∀ V, Rr w0 V p s A st → Calls Tryd.prog 134 #[.pointer (some ⟨p, 0, none⟩)] V (NdP w0 V p s A (atm ex s.data.toList st))) (hle : (atm ex s.data.toList st).2.pos ≤ s.size) (h : Rr w0 W p s A st) : Calls Tryd.prog 105 #[.pointer (some ⟨p, 0, none⟩)] W (NdP w0 W p s A (pce ex s.data.toList st)) := by
  obtain ⟨n1, s1, ha1⟩ : ∃ n1 s1, atm ex s.data.toList st = (n1, s1) := ⟨_, _, rfl⟩
  have hpce : pce ex s.data.toList st = pcL s.data.toList (s.size + 1) s1 n1 := by unfold pce; rw [ha1, size_list]
  rw [ha1] at hat hle
  rw [hpce]
  simp only at hle
  have a1 := At.new h
  obtain ⟨W1, hW1⟩ : ∃ W1, W.alloc Z9 = W1 := ⟨_, rfl⟩
  rw [hW1] at a1
  have HW1 := Lib.hid (show W.alloc (.cells #[.int .i64 0, .int .u64 0, .int .u64 0, .int .u64 0, .int .u64 0, .slice none 0 0, .int .i64 0, .int .i64 0, .string ⟨#[]⟩] 27) = W1 from hW1)
  obtain ⟨R, hR⟩ : ∃ R, W.heap.size = R := ⟨_, rfl⟩
  rw [hR] at a1
  have HR := Lib.hid hR
  have H1 := Lib.hid a1
  have HAt := Lib.hid hat
  have HLe := Lib.hid hle
  have HT : Hid (∀ V st', Rr w0 V p s A st' → ∀ (c : UInt8) (L : ByteArray), Str [c] = L → Calls Tryd.prog 74 #[.pointer (some ⟨p, 0, none⟩), .string L] V fun r w' => r = .returned (.bool (on s.data.toList st' [c])) ∧ Rr w0 w' p s A (takeS s.data.toList st' c) ∧ Mod [p] V w') := Lib.hid (fun V st' h' c L hL => take_l c L hL hsz V h')
  have HBd : Hid (∀ V st', Rr w0 V p s A st' → Calls Tryd.prog 135 #[.pointer (some ⟨p, 0, none⟩)] V fun r w' => r = .returned (.bool (bounded s.data.toList st')) ∧ ∃ n, w' = V.drewN n) := Lib.hid (fun V st' h' => bounded_c hsz h')
  have HBs : Hid (∀ V st', Rr w0 V p s A st' → st'.pos < s.size → Calls Tryd.prog 136 #[.pointer (some ⟨p, 0, none⟩)] V fun r w' => r = .returned (.tuple #[.int .i64 ((bounds s.data.toList st').1 : Int), .int .i64 (bounds s.data.toList st').2.1]) ∧ Rr w0 w' p s A (bounds s.data.toList st').2.2 ∧ Mod [p] V w') := Lib.hid (fun V st' h' hl => bounds_c hsz h' hl)
  have hsl := size_list s
  obtain ⟨t, ht⟩ : ∃ t, s.data.toList = t := ⟨_, rfl⟩
  rw [ht] at HT HBd HBs hsl ⊢
  have HSl := Lib.hid hsl
  clear h a1 hW1 hat hle ha1 hpce ht hsl
  go_enter Tryd.func105, Tryd.ntmps105
  go_upto_region 1 with (fail)
  rw [HW1.out]
  try rw [HR.out]
  clear hR
  go_wp2_with fail
  refine (HAt.out _ H1.out.rr).mono ?_
  rintro _ w3 ⟨m, rfl, hme, hI, hb, hr, hm⟩
  have h3 := H1.out.step hr hm
  have l1 := H1.out.lt
  have l3 := h3.lt
  obtain ⟨x0, x1, x2, x3, hs4⟩ := four hI.len
  obtain ⟨k, sx, mn, mx, tx, a, c, ks⟩ := m
  simp only [Nd.set] at hs4
  subst hs4
  obtain ⟨nl, hnl⟩ : ∃ nl, ks.length = nl := ⟨_, rfl⟩
  have hnv : nv (.mk k [x0, x1, x2, x3] mn mx tx a c ks) = .agg #[.int .i64 k, .int .u64 (x0 : Int), .int .u64 (x1 : Int), .int .u64 (x2 : Int), .int .u64 (x3 : Int), .slice a nl c, .int .i64 mn, .int .i64 mx, .string (Str tx)] := by rw [← hnl]; rfl
  rw [hnv]
  obtain ⟨W4, hW4⟩ : ∃ x, w3.alloc (.cells #[.int .i64 k, .int .u64 (x0 : Int), .int .u64 (x1 : Int), .int .u64 (x2 : Int), .int .u64 (x3 : Int), .slice a nl c, .int .i64 mn, .int .i64 mx, .string (Str tx)] 27) = x := ⟨_, rfl⟩
  have b4 : Below w3.heap.size w3 W4 := by rw [← hW4]; exact (Below.refl _ _).alloc (Nat.le_refl _) _
  have s4 : W4.heap[w3.heap.size]? = some (.cells #[.int .i64 k, .int .u64 (x0 : Int), .int .u64 (x1 : Int), .int .u64 (x2 : Int), .int .u64 (x3 : Int), .slice a nl c, .int .i64 mn, .int .i64 mx, .string (Str tx)] 27 (0, 0)) := by rw [← hW4]; exact World.alloc_heap_new _ _
  have h4 := h3.below b4
  have hWR := h3.hR
  have hq : Bq W W4 p R w3.heap.size (.mk k [x0, x1, x2, x3] mn mx tx a c ks) := ⟨by rw [s4, ← hnl]; rfl, Is.mono b4.size (Is.below b4 hI), by
    have hbl := Is.bl hI
    refine Bl.both hb hbl fun q (hq1 : _ ≤ q) (hq2 : q < _) => ⟨by omega, by omega, by omega⟩, ⟨by omega, by omega⟩, h3.hpw⟩
  obtain ⟨X, hX⟩ : ∃ X, w3.heap.size = X := ⟨_, rfl⟩
  rw [hX] at hq
  have H4 := Lib.hid h4
  have HQ := Lib.hid hq
  have HMe := Lib.hid hme
  have HW4 := Lib.hid hW4
  have HX := Lib.hid hX
  clear h3 hnv b4 s4 h4 hI hb hr hm hq hW4 l1 l3 hWR
  go_upto_block 0 with (fail)
  try rw [HW4.out]
  try rw [HX.out]
  clear hX
  go_wp2
  go_loopw [4, 5] (fun _ _ V => ∃ (k : Nat) (st' : S) (m : Nd), At w0 W V p s A st' R ∧ Bq W V p R X m ∧ st'.pos ≤ s.size ∧ (st'.err = 0 → s.size - st'.pos < k + 1) ∧ pcL t (s.size + 1) s1 n1 = pcL t (k + 1) st' (er m)) (fun _ _ V => left s.size V p)
  case atStart => exact ⟨s.size, s1, _, H4.out, HQ.out, HLe.out, fun _ => by omega, by rw [HMe.out]⟩
  case round =>
    obtain ⟨k, st', m, ha, hq, hle, hk, hpc⟩ := hrel
    have HP := Lib.hid (And.intro ha hq)
    have HPc := Lib.hid hpc
    have HK := Lib.hid (And.intro hle hk)
    have HOn : Hid (∀ c, on t st' [c] = true → st'.err = 0 ∧ st'.pos < s.size) := Lib.hid (fun c hc => by rw [HSl.out]; exact on_lt hc)
    clear ha hq hpc hle hk H4 HQ HMe
    go_upto_block 2 with (fail)
    go_cut [4, 5] (fun v4 v5 V => ∃ (mn mx : Int) (st2 : S), v4 = .int .i64 mn ∧ v5 = .int .i64 mx ∧ At w0 W V p s A st2 R ∧ Bq W V p R X m ∧ st2.pos ≤ s.size ∧ st'.err = 0 ∧ st'.pos < s.size ∧ (st2.err = 0 → st'.pos < st2.pos) ∧ pcL t (k + 1) st' (er m) = pcL t k st2 (rep mn mx (er m)))
    case first =>
      have hn : ∀ c, on t st' [c] = true → takeS t st' c = nx st' := fun c hc => by unfold takeS; rw [if_pos hc]
      have hn0 : ∀ c, on t st' [c] = false → takeS t st' c = st' := fun c hc => by unfold takeS; rw [if_neg (by rw [hc]; simp)]
      have HN := Lib.hid hn
      have HN0 := Lib.hid hn0
      clear hn hn0
      obtain ⟨O1, hO1⟩ : ∃ O, on t st' [42] = O := ⟨_, rfl⟩
      have hk1 := HT.out _ _ HP.out.1.rr 42 _ rfl
      rw [hO1] at hk1
      have HK1 := Lib.hid hk1
      have HO1 := Lib.hid hO1
      clear hk1 hO1
      cases O1 with
      | true =>
        as_aux_lemma =>
          have hlt := HOn.out 42 HO1.out
          go_wp2_with fail
          refine HK1.out.mono ?_
          rintro _ w5 ⟨rfl, hr, hm⟩
          rw [HN.out 42 HO1.out] at hr
          have H5 := Lib.hid (And.intro (HP.out.1.step hr hm) (HP.out.2.mod hm))
          clear hr hm
          go_wp2
          go_meet
          exact ⟨0, -1, nx st', rfl, rfl, H5.out.1, H5.out.2, hlt.2, hlt.1, hlt.2, fun _ => Nat.lt_succ_self _, pcL_star HO1.out⟩
      | false =>
        go_wp2_with fail
        refine HK1.out.mono ?_
        rintro _ w5 ⟨rfl, hr, hm⟩
        rw [HN0.out 42 HO1.out] at hr
        have H5 := Lib.hid (And.intro (HP.out.1.step hr hm) (HP.out.2.mod hm))
        clear hr hm
        obtain ⟨O2, hO2⟩ : ∃ O, on t st' [43] = O := ⟨_, rfl⟩
        have hk2 := HT.out _ _ H5.out.1.rr 43 _ rfl
        rw [hO2] at hk2
        have HK2 := Lib.hid hk2
        have HO2 := Lib.hid hO2
        clear hk2 hO2 HK1 HP
        cases O2 with
        | true =>
          as_aux_lemma =>
            have hlt := HOn.out 43 HO2.out
            go_wp2_with fail
            refine HK2.out.mono ?_
            rintro _ w6 ⟨rfl, hr, hm⟩
            rw [HN.out 43 HO2.out] at hr
            have H6 := Lib.hid (And.intro (H5.out.1.step hr hm) (H5.out.2.mod hm))
            clear hr hm
            go_wp2
            go_meet
            exact ⟨1, -1, nx st', rfl, rfl, H6.out.1, H6.out.2, hlt.2, hlt.1, hlt.2, fun _ => Nat.lt_succ_self _, pcL_plus HO1.out HO2.out⟩
        | false =>
          go_wp2_with fail
          refine HK2.out.mono ?_
          rintro _ w6 ⟨rfl, hr, hm⟩
          rw [HN0.out 43 HO2.out] at hr
          have H6 := Lib.hid (And.intro (H5.out.1.step hr hm) (H5.out.2.mod hm))
          clear hr hm
          obtain ⟨O3, hO3⟩ : ∃ O, on t st' [63] = O := ⟨_, rfl⟩
          have hk3 := HT.out _ _ H6.out.1.rr 63 _ rfl
          rw [hO3] at hk3
          have HK3 := Lib.hid hk3
          have HO3 := Lib.hid hO3
          clear hk3 hO3 HK2 H5
          cases O3 with
          | true =>
            as_aux_lemma =>
              have hlt := HOn.out 63 HO3.out
              go_wp2_with fail
              refine HK3.out.mono ?_
              rintro _ w7 ⟨rfl, hr, hm⟩
              rw [HN.out 63 HO3.out] at hr
              have H7 := Lib.hid (And.intro (H6.out.1.step hr hm) (H6.out.2.mod hm))
              clear hr hm
              go_wp2
              go_meet
              exact ⟨0, 1, nx st', rfl, rfl, H7.out.1, H7.out.2, hlt.2, hlt.1, hlt.2, fun _ => Nat.lt_succ_self _, pcL_quest HO1.out HO2.out HO3.out⟩
          | false =>
            go_wp2_with fail
            refine HK3.out.mono ?_
            rintro _ w7 ⟨rfl, hr, hm⟩
            rw [HN0.out 63 HO3.out] at hr
            have H7 := Lib.hid (And.intro (H6.out.1.step hr hm) (H6.out.2.mod hm))
            clear hr hm
            obtain ⟨O4, hO4⟩ : ∃ O, bounded t st' = O := ⟨_, rfl⟩
            have hk4 := HBd.out _ _ H7.out.1.rr
            rw [hO4] at hk4
            have HK4 := Lib.hid hk4
            have HO4 := Lib.hid hO4
            clear hk4 hO4 HK3 H6
            cases O4 with
            | true =>
              as_aux_lemma =>
                have hlt := HOn.out 123 (by
                  have := HO4.out
                  unfold bounded at this
                  rw [Bool.and_eq_true] at this
                  exact this.1)
                have hba := bounds_adv (t := t) (s := st') (by rw [← HSl.out]; exact hlt)
                have hbl := hba.le
                rw [← HSl.out] at hbl
                have hbo : (bounds t st').2.2.err = 0 → st'.pos < (bounds t st').2.2.pos := fun he => (hba.on he).2
                have HBo := Lib.hid (And.intro hbl hbo)
                clear hba hbl hbo
                go_wp2_with fail
                refine HK4.out.mono ?_
                rintro _ w8 ⟨rfl, m8, hw8⟩
                have H8 : Hid (At w0 W w8 p s A st' R ∧ Bq W w8 p R X m) := Lib.hid (by rw [hw8]; exact ⟨H7.out.1.drewN m8, H7.out.2.below (below_drewN (Below.refl _ _) m8)⟩)
                clear hw8
                have HK5 := Lib.hid (HBs.out _ _ H8.out.1.rr hlt.2)
                obtain ⟨bl, bm, bs, hbd⟩ : ∃ bl bm bs, bounds t st' = (bl, bm, bs) := ⟨_, _, _, rfl⟩
                have hpb := pcL_bnd (t := t) (k := k) (s := st') (n := er m) HO1.out HO2.out HO3.out HO4.out
                rw [hbd] at HBo HK5 hpb
                have HPb := Lib.hid hpb
                clear hbd hpb
                go_wp2_with fail
                refine HK5.out.mono ?_
                rintro _ w9 ⟨rfl, hr, hm⟩
                have H9 := Lib.hid (And.intro (H8.out.1.step hr hm) (H8.out.2.mod hm))
                clear hr hm
                go_wp2
                go_meet
                exact ⟨(bl : Int), bm, bs, rfl, rfl, H9.out.1, H9.out.2, HBo.out.1, hlt.1, hlt.2, HBo.out.2, HPb.out⟩
            | false =>
              as_aux_lemma =>
                go_wp2_with fail
                refine HK4.out.mono ?_
                rintro _ w8 ⟨rfl, m8, hw8⟩
                have h8 : At w0 W w8 p s A st' R ∧ Bq W w8 p R X m := by rw [hw8]; exact ⟨H7.out.1.drewN m8, H7.out.2.below (below_drewN (Below.refl _ _) m8)⟩
                clear hw8
                obtain ⟨k', mn, mx, x0, x1, x2, x3, nl, c, a, tx, ks, rfl, hnl, hbk⟩ := h8.2.cells
                have hf := h8.1.fin hnl h8.2.is (h8.2.out.mono fun q hq => ⟨hq.1, hq.2.1⟩)
                obtain ⟨e0, e1, e2, e3, e4, e5, e6, e7, e8⟩ := nd_cells hbk
                have hend := HPc.out.trans (pcL_end (t := t) (k := k) (s := st') HO1.out HO2.out HO3.out HO4.out)
                have HEnd := Lib.hid hend
                have HPb := Lib.hid hf.1
                have HFin := Lib.hid hf.2
                have HZ8 := Lib.hid h8.1.z
                clear hf h8 hend hbk
                go_upto_region 3 with (fail)
                go_step
                go_step
                go_step
                go_step
                go_step
                refine wp_store9 rfl rfl rfl rfl HZ8.out ?_
                clear e0 e1 e2 e3 e4 e5 e6 e7 e8
                go_wp2
                ((try simp only [Exit.inBlock, Exit.then]); refine bodyPost_ret (results_cell_row rfl _ _ (R) 27 _ (0, 0) _ rfl (HPb.out) Tryd.underlying27 rfl ?hi1) rfl ?_; (case hi1 => kernel_rfl))
                rw [HEnd.out]
                exact HFin.out
    case rest =>
      as_aux_lemma =>
        obtain ⟨mn', mx', st2, rfl, rfl, h2, hq2, hle2, he, hlt, hadv, hpc2⟩ := hcut
        obtain ⟨k', mn, mx, x0, x1, x2, x3, nl, c, a, tx, ks, rfl, hnl, hbk⟩ := hq2.cells
        have hl2 := h2.lt
        have hrep := hq2.rep hnl mn' mx' hl2.2.2
        have hXs := hq2.hX
        have hpw := h2.hpw
        have h3 := h2.other hrep.2 (fun x hx => by simp at hx; omega)
        obtain ⟨kk, rfl⟩ : ∃ kk, k = kk + 1 := ⟨k - 1, by have := HK.out.2 he; omega⟩
        obtain ⟨e0, e1, e2, e3, e4, e5, e6, e7, e8⟩ := nd_cells hbk
        obtain ⟨f0, f1, f2, f3, f4, f5, f6, f7, f8⟩ := frz9 hbk
        have hXl := block_lt hbk
        have hwz : wc.heap.size ≠ X := by omega
        have H3 := Lib.hid (And.intro h3 hrep.1)
        have HR2 := Lib.hid h2.rr
        have HPn := Lib.hid (HPc.out.trans hpc2)
        have HNum := Lib.hid (And.intro hle2 (And.intro he (And.intro hlt hadv)))
        have HZ : Hid (wc.heap[X]? = _) := Lib.hid hbk
        clear h2 hq2 hrep h3 hbk hpc2
        clear f0 f1 f2 f3 f4 f5 f6 f7 f8
        go_upto_region 11 with (fail)
        go_step
        go_step
        go_step
        go_step
        go_step
        go_step
        go_step
        go_step
        go_step
        go_step
        go_step
        refine wp_build_run (build_nd _ _ _ _ _ _ _ _ _ _ _ _) rfl rfl ?_
        clear e0 e1 e2 e3 e4 e5 e6 e7 e8
        go_step
        go_step
        go_step
        go_step
        go_step
        refine wp_store9n (x0 := 0) (x1 := 0) (x2 := 0) (x3 := 0) (t := []) rfl rfl rfl rfl (block_alloc HZ.out) ?_
        go_wp2
        go_roundw
        case rel => exact ⟨kk, st2, _, H3.out.1, H3.out.2, HNum.out.1, fun he2 => by have := HNum.out; have := HK.out.2 HNum.out.2.1; have := HNum.out.2.2.2 he2; omega, HPn.out⟩
        case measure => exact left_lt HP.out.1.rr H3.out.1.rr HNum.out.2.2.1 (fun h => ⟨HNum.out.2.1, HNum.out.2.2.2 h⟩) HNum.out.2.1
end Rx
end Go.Proofs.YtoeeddfinmfnoaaDoor
