import Derived.Test.YtoeeddfinmfnoaaDoorQTreeDep
import Derived.Test.YtoeeddfinmfnoaaDoorQTreeRes
import Derived.Test.YtoeeddfinmfnoaaDoorQRangeA
import Derived.BigQuiet
/- tree.Right. -/
namespace Go.Proofs.YtoeeddfinmfnoaaDoor
namespace Kt
end Kt
open Go Go.RowKit Go.Shelf Kt
namespace Tr
attribute [local go_sem] Oper.semAt_some
/-- What the range's 'assign' makes of a node: a box of the round's own. -/
def Asg (nd : Array Value) (w : World) (x : Nd × Nat) (W : World) (a' : Act) (W' : World) : Prop :=
  W' = W.alloc (.cells (cells x.1).toArray 27) ∧ a' = { tmps := #[.agg nd, .pointer (some ⟨w.heap.size, 0, none⟩), .pointer (some ⟨w.heap.size + 1, 0, none⟩), .pointer (some ⟨w.heap.size + 1 + 1, 0, none⟩), .pointer (some ⟨W.heap.size, 0, none⟩), .int .i64 (x.2 : Nat), .agg nd, .func (.func 81) #[] #[.pointer (some ⟨w.heap.size + 1 + 1 + 1, 0, none⟩)], nv x.1, .int .i64 (x.2 : Nat), undef, undef, undef, undef, undef, undef, undef, undef, undef, undef, undef, undef, undef], defers := [] }
/-- Where Right's range stands. -/
structure Rt (w : World) (T : List Nat) (pre : List (Nd × Nat)) (W : World) : Prop where
  N : Nr w (w.heap.size + 4) (w.heap.size + 2) T (.int .i64 (pre.length : Nat)) W
  R : W.heap[w.heap.size + 1]? = some (.cells #[.bool false] 4 (0, 0))
  Z : w.heap.size + 4 ≤ W.heap.size
theorem Rt.mod {w : World} {T T' : List Nat} {pre : List (Nd × Nat)} {A A' : World} (h : Rt w T pre A) (hM : Mod T A A') (hT : ∀ t ∈ T', t ∈ T ∨ A.heap.size ≤ t) : Rt w T' pre A' :=
  ⟨h.N.mod (by omega) (by omega) h.Z hM hT, (hM.block _ (block_lt h.R) (fun hm => by have := h.N.T _ hm; omega)).trans h.R, Nat.le_trans h.Z hM.size⟩
theorem rgt_bad {n : Nd} {pre : List (Nd × Nat)} {x : Nd × Nat} (hpre : pre ++ [x] <+: walk n) (h : 24 < x.2 ∨ 600 < pre.length + 1 ∨ one x.1 = false) : rgt n = false := by
  have hx : x ∈ walk n := hpre.subset (by simp)
  have hl := hpre.length_le
  simp at hl
  unfold rgt
  rw [Bool.and_eq_false_iff]
  rcases h with h | h | h
  · exact .inr (List.all_eq_false.2 ⟨x, hx, by simp; omega⟩)
  · exact .inl (decide_eq_false (by omega))
  · exact .inr (List.all_eq_false.2 ⟨x, hx, by simp [h]⟩)
/-- A round's end: what its worlds keep. -/
theorem Rt.count {w : World} {T : List Nat} {pre : List (Nd × Nat)} {W : World} (h : Rt w T pre W) (x : Nd × Nat) (_hT : ∀ t ∈ T, t < W.heap.size) :
    Rt w T (pre ++ [x]) (W.setCell ⟨w.heap.size + 1 + 1, 0, none⟩ (.int .i64 ((pre.length : Int) + 1))) ∧ Mod [w.heap.size + 1 + 1] W (W.setCell ⟨w.heap.size + 1 + 1, 0, none⟩ (.int .i64 ((pre.length : Int) + 1))) := by
  have hM := (Mod.refl [w.heap.size + 1 + 1] W).setCell (p := ⟨w.heap.size + 1 + 1, 0, none⟩) (.inl (by simp)) (.int .i64 ((pre.length : Int) + 1))
  refine ⟨⟨⟨h.N.T, ?_, h.N.B.setCell (p := ⟨w.heap.size + 1 + 1, 0, none⟩) (by simp; omega) _⟩, (block_setOther (by omega) _).trans h.R, Nat.le_trans h.Z hM.size⟩, hM⟩
  have := block_setCell (i := 0) (show _ = some (Obj.cells _ _ _) from h.N.box) (.int .i64 ((pre.length : Int) + 1))
  simpa using this
theorem Rt.said {w : World} {T : List Nat} {pre : List (Nd × Nat)} {W : World} (h : Rt w T pre W) :
    Rt w T pre (W.setCell ⟨w.heap.size + 1, 0, none⟩ (.bool false)) ∧ Mod [w.heap.size + 1] W (W.setCell ⟨w.heap.size + 1, 0, none⟩ (.bool false)) := by
  have hM := (Mod.refl [w.heap.size + 1] W).setCell (p := ⟨w.heap.size + 1, 0, none⟩) (.inl (by simp)) (.bool false)
  refine ⟨⟨⟨h.N.T, (block_setOther (by omega) _).trans h.N.box, h.N.B.setCell (p := ⟨w.heap.size + 1, 0, none⟩) (by simp) _⟩, ?_, Nat.le_trans h.Z hM.size⟩, hM⟩
  exact block_setCell (i := 0) (show _ = some (Obj.cells _ _ _) from h.R) _
set_option maxRecDepth 100000 in
set_option maxHeartbeats 2000000 in
/-- tree.Right. -/
theorem right_c0 (n : Nd) (hset : ∀ x ∈ walk n, x.1.set.length = 4) (ht : ∀ x ∈ walk n, ∀ m w, CallsIn Fence.wide m Tryd.prog 59 #[nv x.1] w fun e W' => e = .returned (.bool (one x.1)) ∧ Below w.heap.size w W') (w : World) (hIs : Is w.heap.size w n) :
    Calls Tryd.prog 22 #[nv n] w fun e W' => e = .returned (.bool (rgt n)) ∧ Below w.heap.size w W' := by
  refine (callsIn_wide (n := 3)).1 ?_
  have hall := fun m w => all_in m n hIs.len w
  have hseqs := fun bn w0 h1 h2 h3 => all_seq (3 - 1) w.heap.size bn n w0 h1 h2 h3
  have hlen : ∀ pre x, pre ++ [x] <+: walk n → pre.length < 601 := fun pre x h => by
    have h1 := h.length_le
    have h2 : (walk n).length ≤ 601 := by simp only [walk, List.length_take]; omega
    simp at h1
    omega
  obtain ⟨x0, x1, x2, x3, hs⟩ := four' hIs.len
  have hnk : ∃ (k mn mx : Int) (a : Option Addr) (nl c : Nat) (t : List UInt8), nv n = .agg #[.int .i64 k, .int .u64 (x0 : Int), .int .u64 (x1 : Int), .int .u64 (x2 : Int), .int .u64 (x3 : Int), .slice a nl c, .int .i64 mn, .int .i64 mx, .string (Str t)] ∧ (cells n).toArray = #[.int .i64 k, .int .u64 (x0 : Int), .int .u64 (x1 : Int), .int .u64 (x2 : Int), .int .u64 (x3 : Int), .slice a nl c, .int .i64 mn, .int .i64 mx, .string (Str t)] := by
    obtain ⟨k, s, mn, mx, t, a, c, ks⟩ := n
    simp only [Nd.set] at hs
    subst hs
    exact ⟨k, mn, mx, a, ks.length, c, t, rfl, rfl⟩
  obtain ⟨k, mn, mx, a, nl, c, t, hnv, hcl⟩ := hnk
  rw [hnv, hcl] at hall
  rw [hcl] at hseqs
  rw [hnv]
  have HA := Lib.hid hall
  have HS := Lib.hid hseqs
  have HI := Lib.hid hIs
  have HL := Lib.hid hlen
  have HT := Lib.hid ht
  have HZ := Lib.hid hset
  clear hall hseqs hIs hlen hnv hcl hs ht hset
  refine callsIn_of_wp_marks Tryd.func22 rfl trivial ?_ rfl
  simp only [Tryd.ntmps22, List.size_toArray, List.length_cons, List.length_nil, Nat.reduceAdd, Nat.reduceSub, Array.replicate_succ, Array.replicate_zero, List.push_toArray, List.append_toArray, List.nil_append, List.cons_append]
  gi_wp2_with (refine ⟨trivial, ?_⟩; gi_at_call 58; refine (HA.out _ _).mono ?_; rintro e w' ⟨rfl, rfl⟩)
  obtain ⟨nd, hnd⟩ : ∃ nd : Array Value, nd = #[.int .i64 k, .int .u64 (x0 : Int), .int .u64 (x1 : Int), .int .u64 (x2 : Int), .int .u64 (x3 : Int), .slice a nl c, .int .i64 mn, .int .i64 mx, .string (Str t)] := ⟨_, rfl⟩
  rw [← hnd] at HS ⊢
  obtain ⟨w3, hw3⟩ : ∃ w3, ((((w.alloc (.cells nd 27)).alloc (.cells #[.bool false] 4)).alloc (.cells #[.int .i64 0] 3)).alloc (.cells nd 27)) = w3 := ⟨_, rfl⟩
  have hs3 : w3.heap.size = w.heap.size + 4 := by rw [← hw3]; simp
  have hB0 : Below w.heap.size w w3 := by
    rw [← hw3]
    exact ((((Below.refl _ w).alloc (Nat.le_refl _) _).alloc (by simp) _).alloc (by simp; omega) _).alloc (by simp; omega) _
  have bR : w3.heap[w.heap.size + 1]? = some (.cells #[.bool false] 4 (0, 0)) := by
    rw [← hw3]
    have := heap_alloc_new (w.alloc (.cells nd 27)) (.cells #[.bool false] 4)
    rw [World.size_alloc] at this
    exact block_alloc (block_alloc this)
  have bO : w3.heap[w.heap.size + 2]? = some (.cells #[.int .i64 0] 3 (0, 0)) := by
    rw [← hw3]
    have := heap_alloc_new ((w.alloc (.cells nd 27)).alloc (.cells #[.bool false] 4)) (.cells #[.int .i64 0] 3)
    rw [World.size_alloc, World.size_alloc] at this
    exact block_alloc this
  have hBn : w3.heap[w.heap.size + 1 + 1 + 1]? = some (.cells nd 27 (0, 0)) := by
    rw [← hw3]
    have := heap_alloc_new (((w.alloc (.cells nd 27)).alloc (.cells #[.bool false] 4)).alloc (.cells #[.int .i64 0] 3)) (.cells nd 27)
    rw [World.size_alloc, World.size_alloc, World.size_alloc] at this
    exact this
  have hseq := HS.out _ w3 hBn (Is.below hB0 HI.out) (by omega)
  rw [hw3]
  clear hw3 hBn HS HI HA hnd
  refine wp_rangeA (gf := 81) (lb := #[.pointer (some ⟨w.heap.size + 1 + 1 + 1, 0, none⟩)]) rfl (enters_of Tryd.func81 (by kernel_rfl) rfl)
    hseq (Below.refl _ _) (by omega) (fun _ => rfl)
    (fun T pre W => Rt w T pre W ∧ pre.length ≤ 600 ∧ pre.all fun x => decide (x.2 ≤ 24) && one x.1)
    (fun c T pre W => c = .ret ∧ Rt w T pre W ∧ rgt n = false)
    (fun T T' pre A A' h hM hT => ⟨h.1.mod hM hT, h.2⟩) (fun c T T' pre A A' h hM hT => ⟨h.1, h.2.1.mod hM hT, h.2.2⟩)
    (fun T W' hT hB => ⟨⟨⟨fun t ht => by have := hT t ht; omega, (hB.block _ (block_lt bO)).trans bO, hB0.trans (hB.mono (by omega))⟩, (hB.block _ (block_lt bR)).trans bR, by have := hB.size; omega⟩, by simp, by simp⟩)
    (Asg nd w) (fun x W a' W' h => by rw [h.1]; exact (Below.refl _ _).alloc (Nat.le_refl _) _) ?assign ?body ?done ?stop
  case assign =>
    intro l x W K hx hK
    have hxs := HZ.out x hx
    have hK' := hK _ _ ⟨rfl, rfl⟩
    obtain ⟨y, lv⟩ := x
    obtain ⟨k', s', mn', mx', t', a', c', ks'⟩ := y
    simp only [Nd.set] at hxs
    obtain ⟨y0, y1, y2, y3, rfl⟩ := four' hxs
    unfold enc
    have hz : (#[8, 9] : Array Tmp).zip #[nv (Nd.mk k' [y0, y1, y2, y3] mn' mx' t' a' c' ks', lv).1, .int .i64 ((Nd.mk k' [y0, y1, y2, y3] mn' mx' t' a' c' ks', lv).2 : Nat)] = #[(8, .agg #[.int .i64 k', .int .u64 (y0 : Int), .int .u64 (y1 : Int), .int .u64 (y2 : Int), .int .u64 (y3 : Int), .slice a' ks'.length c', .int .i64 mn', .int .i64 mx', .string (Str t')]), (9, .int .i64 (lv : Nat))] := by simp [nv, cells, w64, Nd.kind, Nd.set, Nd.mn, Nd.mx, Nd.text, Nd.a, Nd.cap, Nd.kids]
    rw [hz]
    have HK := Lib.hid hK'
    clear hK hK' hz hxs hx
    gi_wp2
    exact HK.out
  case body =>
    rintro l T pre x W0 W1 W a' ⟨hR, hl, ha⟩ ⟨rfl, rfl⟩ hM hTW hW0 hpre
    have hx : x ∈ walk n := hpre.subset (by simp)
    have hxs := HZ.out x hx
    have hone := HT.out x hx
    have hbad := rgt_bad hpre
    have hgood : x.2 ≤ 24 → one x.1 = true → pre.length + 1 ≤ 600 → ((pre ++ [x]).length ≤ 600 ∧ (pre ++ [x]).all fun x => decide (x.2 ≤ 24) && one x.1) := fun h1 h2 h3 => by
      refine ⟨by simp; omega, ?_⟩
      rw [List.all_append, Bool.and_eq_true]
      exact ⟨ha, by simp [h1, h2]⟩
    have hTl : ∀ t ∈ T, t < W.heap.size := fun t ht => by have h1 := hM.size; have h2 := (hTW t ht).2; simp at h1; omega
    obtain ⟨hR2, hM2⟩ := hR.count x hTl
    have hc : W.cell? ⟨w.heap.size + 1 + 1, 0, none⟩ = some (.int .i64 (pre.length : Nat)) := by rw [cell_block (show _ = some (Obj.cells _ _ _) from hR.N.box)]; rfl
    have hf := frozen_block (show _ = some (Obj.cells _ _ (0, 0)) from hR.N.box) 0
    rw [hs3] at hW0
    have hnb : W.heap[W0.heap.size]? = some (.cells (cells x.1).toArray 27 (0, 0)) := (hM.block _ (by simp) (fun hm => by have := (hTW _ hm).2; omega)).trans (heap_alloc_new W0 _)
    obtain ⟨y, lv⟩ := x
    obtain ⟨k', s', mn', mx', t', a', c', ks'⟩ := y
    simp only [Nd.set] at hxs
    obtain ⟨y0, y1, y2, y3, rfl⟩ := four' hxs
    have hcl : (cells (Nd.mk k' [y0, y1, y2, y3] mn' mx' t' a' c' ks')).toArray = #[.int .i64 k', .int .u64 (y0 : Int), .int .u64 (y1 : Int), .int .u64 (y2 : Int), .int .u64 (y3 : Int), .slice a' ks'.length c', .int .i64 mn', .int .i64 mx', .string (Str t')] := rfl
    have hnv : nv (Nd.mk k' [y0, y1, y2, y3] mn' mx' t' a' c' ks') = .agg #[.int .i64 k', .int .u64 (y0 : Int), .int .u64 (y1 : Int), .int .u64 (y2 : Int), .int .u64 (y3 : Int), .slice a' ks'.length c', .int .i64 mn', .int .i64 mx', .string (Str t')] := rfl
    simp only at hnb hone hbad hgood
    rw [hcl] at hnb
    rw [hnv] at hone ⊢
    have hnb2 := (hM2.block _ (block_lt hnb) (by simp; omega)).trans hnb
    have z0 := cell_block (i := 0) (show _ = some (Obj.cells _ _ _) from hnb2)
    have z1 := cell_block (i := 1) (show _ = some (Obj.cells _ _ _) from hnb2)
    have z2 := cell_block (i := 2) (show _ = some (Obj.cells _ _ _) from hnb2)
    have z3 := cell_block (i := 3) (show _ = some (Obj.cells _ _ _) from hnb2)
    have z4 := cell_block (i := 4) (show _ = some (Obj.cells _ _ _) from hnb2)
    have z5 := cell_block (i := 5) (show _ = some (Obj.cells _ _ _) from hnb2)
    have z6 := cell_block (i := 6) (show _ = some (Obj.cells _ _ _) from hnb2)
    have z7 := cell_block (i := 7) (show _ = some (Obj.cells _ _ _) from hnb2)
    have z8 := cell_block (i := 8) (show _ = some (Obj.cells _ _ _) from hnb2)
    simp only [List.getElem?_toArray, List.getElem?_cons_zero, List.getElem?_cons_succ] at z0 z1 z2 z3 z4 z5 z6 z7 z8
    generalize one (Nd.mk k' [y0, y1, y2, y3] mn' mx' t' a' c' ks') = o at *
    have hc2 : (W.setCell ⟨w.heap.size + 1 + 1, 0, none⟩ (.int .i64 ((pre.length : Int) + 1))).cell? ⟨w.heap.size + 1 + 1, 0, none⟩ = some (.int .i64 ((pre.length : Int) + 1)) := by rw [cell_block (show _ = some (Obj.cells _ _ _) from hR2.N.box)]; simp
    have hkp := fun t (h : t ∈ T) => hM2.block t (hTl t h) (by have := hR.N.T t h; simp; omega)
    have hb2 := hM2.toBelow hR.N.B.size (by simp; omega)
    have hsz2 := hM2.size
    have hrc2 := cell_block (i := 0) (show _ = some (Obj.cells _ _ _) from hR2.R)
    have hrc := cell_block (i := 0) (show _ = some (Obj.cells _ _ _) from hR.R)
    have hfr0 := frozen_block (show _ = some (Obj.cells _ _ (0, 0)) from hR.R) 0
    simp only [List.getElem?_toArray, List.getElem?_cons_zero] at hrc hrc2
    have hfr := frozen_block (show _ = some (Obj.cells _ _ (0, 0)) from hR2.R) 0
    have HR2 := Lib.hid hR2
    have HKP := Lib.hid hkp
    have HB2 := Lib.hid hb2
    have HS2 := Lib.hid hsz2
    have HON := Lib.hid hone
    have HBAD := Lib.hid hbad
    have HGOOD := Lib.hid hgood
    have HTL := Lib.hid (And.intro hTl hR.N.T)
    have HRB := Lib.hid hR.N.B.size
    clear hR2 hkp hb2 hsz2 hone hbad hgood hTl hR hM hM2 hnb hnb2 hcl hnv hx hxs hpre hTW ha
    generalize ks'.length = nl' at *
    by_cases hlv : 24 < lv
    · have hd : decide ((24 : Int) < (lv : Int)) = true := by simp; omega
      gi_wp2_with (refine ⟨trivial, ?_⟩)
      obtain ⟨hr4, hm4⟩ := HR2.out.said
      refine ⟨⟨Nat.le_trans HS2.out hm4.size, fun t ht => (hm4.block t (Nat.lt_of_lt_of_le (HTL.out.1 t ht) HS2.out) (by have := HTL.out.2 t ht; simp; omega)).trans (HKP.out t ht)⟩, rfl, hr4, HBAD.out (.inl hlv)⟩
    · have hd : decide ((24 : Int) < (lv : Int)) = false := by simp; omega
      by_cases h6 : 600 < pre.length + 1
      · have hd6 : decide ((600 : Int) < (pre.length : Int) + 1) = true := by simp; omega
        gi_wp2_with (refine ⟨trivial, ?_⟩)
        obtain ⟨hr4, hm4⟩ := HR2.out.said
        refine ⟨⟨Nat.le_trans HS2.out hm4.size, fun t ht => (hm4.block t (Nat.lt_of_lt_of_le (HTL.out.1 t ht) HS2.out) (by have := HTL.out.2 t ht; simp; omega)).trans (HKP.out t ht)⟩, rfl, hr4, HBAD.out (.inr (.inl h6))⟩
      · have hd6 : decide ((600 : Int) < (pre.length : Int) + 1) = false := by simp; omega
        cases o
        · gi_wp2_with (first | (refine ⟨trivial, ?_⟩; gi_at_call 59; refine (HON.out _ _).mono ?_; rintro e W3 ⟨rfl, hb3⟩; have hR3 := HR2.out.mod (Mod.of_below hb3 T) (fun b hb => .inl hb); have hf3 := frozen_block (show _ = some (Obj.cells _ _ (0, 0)) from hR3.R) 0; have hrc3 := cell_block (i := 0) (show _ = some (Obj.cells _ _ _) from hR3.R); simp only [List.getElem?_toArray, List.getElem?_cons_zero] at hrc3; have HR3 := Lib.hid hR3; have HB3 := Lib.hid hb3; clear hR3 hb3) | (refine ⟨trivial, ?_⟩))
          obtain ⟨hr4, hm4⟩ := HR3.out.said
          refine ⟨⟨Nat.le_trans HS2.out (Nat.le_trans HB3.out.size hm4.size), fun t ht => (hm4.block t (Nat.lt_of_lt_of_le (HTL.out.1 t ht) (Nat.le_trans HS2.out HB3.out.size)) (by have := HTL.out.2 t ht; simp; omega)).trans ((HB3.out.block t (Nat.lt_of_lt_of_le (HTL.out.1 t ht) HS2.out)).trans (HKP.out t ht))⟩, rfl, hr4, HBAD.out (.inr (.inr (by trivial)))⟩
        · gi_wp2_with (first | (refine ⟨trivial, ?_⟩; gi_at_call 59; refine (HON.out _ _).mono ?_; rintro e W3 ⟨rfl, hb3⟩; have hR3 := HR2.out.mod (Mod.of_below hb3 T) (fun b hb => .inl hb); have hf3 := frozen_block (show _ = some (Obj.cells _ _ (0, 0)) from hR3.R) 0; have hrc3 := cell_block (i := 0) (show _ = some (Obj.cells _ _ _) from hR3.R); simp only [List.getElem?_toArray, List.getElem?_cons_zero] at hrc3; have HR3 := Lib.hid hR3; have HB3 := Lib.hid hb3; clear hR3 hb3) | (refine ⟨trivial, ?_⟩))
          exact ⟨⟨Nat.le_trans HS2.out HB3.out.size, fun t ht => (HB3.out.block t (Nat.lt_of_lt_of_le (HTL.out.1 t ht) HS2.out)).trans (HKP.out t ht)⟩, HB2.out.trans (HB3.out.mono (Nat.le_trans HRB.out HS2.out)), HR3.out, HGOOD.out (by omega) trivial (by omega)⟩
  case done =>
    rintro D W hD ⟨hR, hl, ha⟩ hK
    have hc : W.cell? ⟨w.heap.size + 1, 0, none⟩ = some (.bool false) := by rw [cell_block (show _ = some (Obj.cells _ _ _) from hR.R)]; rfl
    have hf := frozen_block (show _ = some (Obj.cells _ _ (0, 0)) from hR.R) 0
    have hrg : rgt n = true := by simp only [rgt, Bool.and_eq_true, decide_eq_true_eq]; exact ⟨hl, ha⟩
    have hR2 : (W.setCell ⟨w.heap.size + 1, 0, none⟩ (.bool true)).heap[w.heap.size + 1]? = some (.cells #[.bool true] 4 (0, 0)) := block_setCell (i := 0) (show _ = some (Obj.cells _ _ _) from hR.R) _
    have hK2 : (W.setCell ⟨w.heap.size + 1, 0, none⟩ (.bool true)).heap[D]? = some (.deferred (some [])) := (block_setOther (by omega) _).trans hK
    have hB2 : Below w.heap.size w (W.setCell ⟨w.heap.size + 1, 0, none⟩ (.bool true)) := hR.N.B.setCell (p := ⟨w.heap.size + 1, 0, none⟩) (by simp) _
    have H2 := Lib.hid (And.intro hR2 (And.intro hK2 hB2))
    clear hR2 hK2 hB2 hR hK hl ha
    gi_wp2
    obtain ⟨hR2, hK2, hB2⟩ := H2.out
    refine ⟨by simp, .inl ⟨_, _, rfl, run_takeDeferred hK2, ?_⟩⟩
    refine ⟨_, results_bool rfl _ _ (w.heap.size + 1) true rfl (by rw [cell_block (show _ = some (Obj.cells _ _ _) from (World.putObj_heap_other (by omega)).trans hR2)]; rfl), by rw [hrg], hB2.trans (belowK_b (w := w) (Nat.le_refl _) _ D _ _ (by omega) hK2 rfl rfl)⟩
  case stop =>
    rintro D c pre W hD hpre ⟨rfl, hR, hrg⟩ hK
    have hR2 := hR.R
    have hB2 := hR.N.B
    have H2 := Lib.hid (And.intro hR2 (And.intro hK hB2))
    clear hR2 hB2 hR hK
    gi_wp2
    obtain ⟨hR2, hK2, hB2⟩ := H2.out
    refine ⟨by simp, .inl ⟨_, _, rfl, run_takeDeferred hK2, ?_⟩⟩
    refine ⟨_, results_bool rfl _ _ (w.heap.size + 1) false rfl (by rw [cell_block (show _ = some (Obj.cells _ _ _) from (World.putObj_heap_other (by omega)).trans hR2)]; rfl), by rw [hrg], hB2.trans (belowK_b (w := w) (Nat.le_refl _) _ D _ _ (by omega) hK2 rfl rfl)⟩
end Tr
end Go.Proofs.YtoeeddfinmfnoaaDoor
