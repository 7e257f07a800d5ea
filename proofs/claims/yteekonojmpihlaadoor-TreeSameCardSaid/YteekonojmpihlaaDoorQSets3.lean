import Derived.Test.YteekonojmpihlaaDoorQSets4
import Derived.Test.YteekonojmpihlaaDoorQSetsSp
/- (Set).Spans. Condition: the table of TrailingZeros64 reads as laid. -/
namespace Go.Proofs.YteekonojmpihlaaDoor
open Go Go.RowKit Go.Shelf Kt
namespace St
open Mk
attribute [local go_sem] Oper.semAt_some
def brow (acc : List (Nat × Nat)) : List Value := acc.flatMap fun p => [.int .u8 ((p.1 : Nat) : Int), .int .u8 ((p.2 : Nat) : Int)]
theorem brow_snoc (q : List (Nat × Nat)) (lo hi : Nat) : brow (q ++ [(lo, hi)]) = brow q ++ [.int .u8 (lo : Int), .int .u8 (hi : Int)] := by simp [brow]
theorem brow_len (q : List (Nat × Nat)) : (brow q).length = q.length * 2 := by
  induction q with
  | nil => rfl
  | cons p q ih =>
    have e : brow (p :: q) = [.int .u8 ((p.1 : Nat) : Int), .int .u8 ((p.2 : Nat) : Int)] ++ brow q := by simp [brow]
    rw [e, List.length_append, ih, List.length_cons]
    simp
    omega
theorem elB : Kt.El Tryd.prog 183 186 (.agg #[.int .u8 0, .int .u8 0]) 2 2 := ⟨Tryd.underlying183, info_parts (by kernel_rfl), rfl, by decide⟩
theorem cell_two_new (W : World) (a b : Value) (t : TypeId) : ∀ j u, [a, b][j]? = some u → (W.alloc (.cells #[a, b] t)).cell? ((⟨W.heap.size, 0, none⟩ : Addr).add j) = some u := by
  intro j u hj
  match j, hj with
  | 0, hj =>
    simp at hj
    subst hj
    simp [Addr.add]
  | 1, hj =>
    simp at hj
    subst hj
    simp [Addr.add]
set_option maxRecDepth 100000 in
set_option maxHeartbeats 2000000 in
theorem spans_c (ws : List Nat) (hl : ws.length = 4) (hlt : ∀ x ∈ ws, x < 18446744073709551616) (w : World) (hT : Bt.Tab w) :
    Calls Tryd.prog 131 #[sv ws] w fun e W' => ∃ v, ∃ q : List (Fin 256), q.map Fin.val = all ws ∧ e = .returned v ∧ W'.ownsRow w.heap.size 186 2 v (sps (q.map Fin.val)).length (brow (sps (q.map Fin.val))) ∧ Below w.heap.size w W' := by
  obtain ⟨i0, hi, hz0, hz1, hz2⟩ := elB.info
  refine (callsIn_wide (n := 3)).1 ?_
  obtain ⟨x0, x1, x2, x3, hws⟩ := four hl
  have hsv : sv ws = .agg #[.int .u64 (x0 : Int), .int .u64 (x1 : Int), .int .u64 (x2 : Int), .int .u64 (x3 : Int)] := by rw [hws]; rfl
  have hvals : (vals ws).toArray = #[.int .u64 (x0 : Int), .int .u64 (x1 : Int), .int .u64 (x2 : Int), .int .u64 (x3 : Int)] := by rw [hws]; rfl
  have hall := fun n w => all_in n ws hl w
  rw [hsv, hvals] at hall
  have HA := Lib.hid hall
  rw [hsv]
  refine callsIn_of_wp_marks Tryd.func131 rfl trivial ?_ rfl
  simp only [Tryd.ntmps131, List.size_toArray, List.length_cons, List.length_nil, Nat.reduceAdd, Nat.reduceSub, Array.replicate_succ, Array.replicate_zero, List.push_toArray, List.append_toArray, List.nil_append, List.cons_append]
  gi_wp2_with (refine ⟨trivial, ?_⟩; gi_at_call 142; refine (HA.out _ _).mono ?_; rintro e w' ⟨rfl, rfl⟩)
  obtain ⟨w3, hw3⟩ : ∃ w3, (((w.alloc (.cells #[.int .u64 (x0 : Int), .int .u64 (x1 : Int), .int .u64 (x2 : Int), .int .u64 (x3 : Int)] 34)).alloc (.cells #[.slice none 0 0] 183)).alloc (.cells #[.int .u64 (x0 : Int), .int .u64 (x1 : Int), .int .u64 (x2 : Int), .int .u64 (x3 : Int)] 34)) = w3 := ⟨_, rfl⟩
  have hs3 : w3.heap.size = w.heap.size + 1 + 1 + 1 := by rw [← hw3]; simp
  have hB0 : Below w.heap.size w w3 := by
    rw [← hw3]
    exact (((Below.refl _ w).alloc (Nat.le_refl _) _).alloc (by simp) _).alloc (by simp; omega) _
  have bO : Boxed w3 (w.heap.size + 1) 183 (.slice none 0 0) := by
    rw [← hw3]
    have := Boxed.new (w.alloc (.cells #[.int .u64 (x0 : Int), .int .u64 (x1 : Int), .int .u64 (x2 : Int), .int .u64 (x3 : Int)] 34)) 183 (.slice none 0 0)
    rw [World.size_alloc] at this
    exact this.alloc _
  have hBn : w3.heap[w.heap.size + 1 + 1]? = some (.cells (vals ws).toArray 34 (0, 0)) := by
    rw [← hw3, hvals]
    have := heap_alloc_new ((w.alloc (.cells #[.int .u64 (x0 : Int), .int .u64 (x1 : Int), .int .u64 (x2 : Int), .int .u64 (x3 : Int)] 34)).alloc (.cells #[.slice none 0 0] 183)) (.cells #[.int .u64 (x0 : Int), .int .u64 (x1 : Int), .int .u64 (x2 : Int), .int .u64 (x3 : Int)] 34)
    rw [World.size_alloc, World.size_alloc] at this
    exact this
  have hstops := all_stops (3 - 1) (by omega) (w.heap.size + 1 + 1) w.heap.size ws hl hlt w3 hBn (by omega) (fun W' h => hT.below (hB0.trans h))
  rw [hw3]
  clear hw3 hBn hvals hsv hall HA hT
  refine wpIn_rangeFunc_ownG rfl (by omega) (gf := 149) (lb := #[.pointer (some ⟨w.heap.size + 1 + 1, 0, none⟩)]) rfl trivial (enters_of Tryd.func149 (by kernel_rfl) rfl)
    hstops belowK_t (belowK_b (by omega)) (Below.refl _ _) (fun _ => rfl)
    (fun (pre : List (Fin 256)) W => (∃ v, Boxed W (w.heap.size + 1) 183 v ∧ W.ownsRow w.heap.size 186 2 v (sps (pre.map Fin.val)).length (brow (sps (pre.map Fin.val))) ∧ True) ∧ Below w.heap.size w W)
    (fun _ _ _ => False)
    (OwnFrom.and (Own.from (holdsRow_own w.heap.size (w.heap.size + 1) 183 186 2 (fun (pre : List (Fin 256)) => (sps (pre.map Fin.val)).length) (fun pre => brow (sps (pre.map Fin.val))) (fun _ _ => True)) _) (ownFrom_below (Nat.le_refl _) (by omega)))
    (fun _ _ _ _ _ hs _ _ => hs)
    ⟨⟨_, bO, World.ownsRow_nil _ _ _ _, trivial⟩, hB0⟩
    (fun (x : Fin 256) => { tmps := #[.agg #[.int .u64 (x0 : Int), .int .u64 (x1 : Int), .int .u64 (x2 : Int), .int .u64 (x3 : Int)], .pointer (some ⟨w.heap.size, 0, none⟩), .slice none 0 0, .pointer (some ⟨w.heap.size + 1, 0, none⟩), .int .i64 ((x.val : Nat) : Int), undef, .agg #[.int .u64 (x0 : Int), .int .u64 (x1 : Int), .int .u64 (x2 : Int), .int .u64 (x3 : Int)], .func (.func 149) #[] #[.pointer (some ⟨w.heap.size + 1 + 1, 0, none⟩)], .int .i64 ((x.val : Nat) : Int), undef, undef, undef, undef, undef, undef, undef, undef, undef, undef, undef, undef, undef, undef, undef, undef, undef, undef, undef, undef, undef, undef, undef, undef, undef, undef, undef, undef, undef, undef, undef, undef], defers := [] }) ?assign ?body ?done ?stop
  case assign =>
    intro l x W K hK
    unfold enc
    gi_wp2
    exact hK
  case body =>
    rintro l pre x W ⟨⟨v, hv, hrow, _⟩, hB⟩ hlt2
    have hc := hv.cell
    have hxl := x.isLt
    have hx8 : ((x.val : Nat) : Int) % 256 = ((x.val : Nat) : Int) := by omega
    have hsn : sps ((pre ++ [x]).map Fin.val) = step (sps (pre.map Fin.val)) x.val := by rw [List.map_append, List.map_singleton, sps_snoc]
    have hpl : (sps (pre.map Fin.val)).length ≤ 256 := by
      have := sps_len (pre.map Fin.val)
      rw [List.length_map] at this
      omega
    have hbd : ∀ p ∈ sps (pre.map Fin.val), p.1 < 256 ∧ p.2 < 256 := sps_lt (fun y hy => by obtain ⟨z, _, rfl⟩ := List.mem_map.1 hy; exact z.isLt)
    have Hsn := Lib.hid hsn
    clear hsn
    generalize x.val = xv at *
    generalize sps (pre.map Fin.val) = acc at *
    rcases cases_last acc with rfl | ⟨q, lo, hi', rfl⟩
    · have hbr : brow (step [] xv) = brow [] ++ [.int .u8 (xv : Int), .int .u8 (xv : Int)] := rfl
      have Hbr := Lib.hid hbr
      clear hbr hbd
      obtain ⟨a, cap, rfl, _, _, _, _⟩ := rd_own hrow
      gi_wp2_with (gi_at_builtin; refine wpListIn_append_own _ rfl _ _ 183 rfl w.heap.size 186 i0 (.agg #[.int .u8 0, .int .u8 0]) 2 2 Tryd.underlying183 hi hz0 hz1 hz2 rfl (by decide) _ _ _ rfl (hrow.alloc _) ⟨W.heap.size, 0, none⟩ 1 1 [.int .u8 (xv : Int), .int .u8 (xv : Int)] rfl rfl (cell_two_new _ _ _ _) (by simp [Value.oneCell']) (by unfold maxLen; omega) (by omega) (by have := hB.size; simp; omega) ?_; intro v' w1 hown' hgrow _; obtain ⟨g', cap', rfl⟩ := ownsRow_succ hown'; obtain ⟨hv1, hv2, hr2, hk2, hb2⟩ := hv.appended (by decide) hrow hB.size (by omega) hown' hgrow; have hc1 := hv1.cell; have hf1 := hv1.frozen)
      exact ⟨hk2.from _, hb2, ⟨_, hv2, by rw [Hsn.out, Hbr.out]; exact hr2, trivial⟩, hB.trans hb2⟩
    · have hlen : (q ++ [(lo, hi')]).length = q.length + 1 := by simp
      have hbr0 : brow (q ++ [(lo, hi')]) = brow q ++ [.int .u8 (lo : Int), .int .u8 (hi' : Int)] := brow_snoc q lo hi'
      have hql : (brow q).length = q.length * 2 := brow_len q
      rw [hlen] at hrow hpl
      obtain ⟨g, cap, rfl⟩ := ownsRow_succ hrow
      have hch : W.cell? ⟨g, q.length * 2 + 1, none⟩ = some (.int .u8 (hi' : Int)) := by
        obtain ⟨_, off, he, hcc⟩ := Rd.own hrow (q.length * 2 + 1) (.int .u8 (hi' : Int)) (by rw [hbr0, List.getElem?_append_right (by omega), hql, Nat.add_sub_cancel_left]; rfl)
        simp only [Option.some.injEq, Addr.mk.injEq, and_true] at he
        obtain ⟨rfl, rfl⟩ := he
        simpa using hcc
      have hfz := hrow.frozenAt (q.length * 2 + 1)
      have hbq := (hbd (lo, hi') (by simp)).2
      have hh8 : hi' < 256 := hbq
      by_cases hhit : hi' + 1 = xv
      · have hqt : ((hi' : Int) == (xv : Int) - 1) = true := by simp; omega
        have hst := World.ownsRow.stored hrow (q.length * 2 + 1) (.int .u8 (xv : Int))
        have hset : (brow (q ++ [(lo, hi')])).set (q.length * 2 + 1) (.int .u8 (xv : Int)) = brow (q ++ [(lo, xv)]) := by
          rw [hbr0, brow_snoc, List.set_append_right _ _ (by omega), hql, Nat.add_sub_cancel_left]
          rfl
        rw [hset] at hst
        have hgB := (hrow.lt g rfl).1
        have hv2 := hv.kept hst.2 (hv.not_row (by decide) hrow)
        have hl2 : (q ++ [(lo, xv)]).length = q.length + 1 := by simp
        have hsh := step_hit q lo hi' xv hhit
        have Hrow := Lib.hid hst.1
        have Hv2 := Lib.hid hv2
        have Hsh := Lib.hid hsh
        have Hl2 := Lib.hid hl2
        have HB := Lib.hid hB
        clear hst hv2 hsh hl2 hset hbr0 hlen hrow hv hB hbd hhit
        gi_wp2
        have hr3 : (W.setCell ⟨g, q.length * 2 + 1, none⟩ (.int .u8 (xv : Int))).ownsRow w.heap.size 186 2 (.slice (some ⟨g, 0, none⟩) (q.length + 1) cap) (sps ((pre ++ [x]).map Fin.val)).length (brow (sps ((pre ++ [x]).map Fin.val))) := by rw [Hsn.out, Hsh.out, Hl2.out]; exact Hrow.out
        first | exact ⟨(KeepsOthers.setCell _ _ _).from _, (Below.refl w.heap.size W).setCell (p := ⟨g, q.length * 2 + 1, none⟩) hgB _, ⟨_, Hv2.out, hr3, trivial⟩, HB.out.setCell (p := ⟨g, q.length * 2 + 1, none⟩) hgB _⟩ | exact ⟨(KeepsOthers.setCell _ _ _).from _, (Below.refl w.heap.size W).setCell (p := ⟨g, q.length * 2 + 1, none⟩) hgB _, ⟨_, Hv2.out, hr3⟩, HB.out.setCell (p := ⟨g, q.length * 2 + 1, none⟩) hgB _⟩
      · have hqt : ((hi' : Int) == (xv : Int) - 1) = false := by simp; omega
        have hsh := step_miss q lo hi' xv hhit
        have hbr : brow ((q ++ [(lo, hi')]) ++ [(xv, xv)]) = brow (q ++ [(lo, hi')]) ++ [.int .u8 (xv : Int), .int .u8 (xv : Int)] := brow_snoc _ _ _
        have hl2 : ((q ++ [(lo, hi')]) ++ [(xv, xv)]).length = q.length + 1 + 1 := by simp
        have Hsh := Lib.hid hsh
        have Hbr := Lib.hid hbr
        have Hl2 := Lib.hid hl2
        clear hsh hbr hl2 hbr0 hlen hbd hhit
        gi_wp2_with (gi_at_builtin; refine wpListIn_append_own _ rfl _ _ 183 rfl w.heap.size 186 i0 (.agg #[.int .u8 0, .int .u8 0]) 2 2 Tryd.underlying183 hi hz0 hz1 hz2 rfl (by decide) _ _ _ rfl (hrow.alloc _) ⟨W.heap.size, 0, none⟩ 1 1 [.int .u8 (xv : Int), .int .u8 (xv : Int)] rfl rfl (cell_two_new _ _ _ _) (by simp [Value.oneCell']) (by unfold maxLen; omega) (by omega) (by have := hB.size; simp; omega) ?_; intro v' w1 hown' hgrow _; obtain ⟨g', cap', rfl⟩ := ownsRow_succ hown'; obtain ⟨hv1, hv2, hr2, hk2, hb2⟩ := hv.appended (by decide) hrow hB.size (by omega) hown' hgrow; have hc1 := hv1.cell; have hf1 := hv1.frozen)
        have hr3 : (w1.setCell ⟨w.heap.size + 1, 0, none⟩ (.slice (some ⟨g', 0, none⟩) (q.length + 1 + 1) cap')).ownsRow w.heap.size 186 2 (.slice (some ⟨g', 0, none⟩) (q.length + 1 + 1) cap') (sps ((pre ++ [x]).map Fin.val)).length (brow (sps ((pre ++ [x]).map Fin.val))) := by rw [Hsn.out, Hsh.out, Hl2.out, Hbr.out]; exact hr2
        first | exact ⟨hk2.from _, hb2, ⟨_, hv2, hr3, trivial⟩, hB.trans hb2⟩ | exact ⟨hk2.from _, hb2, ⟨_, hv2, hr3⟩, hB.trans hb2⟩
  case done =>
    rintro D ys W hD hys ⟨⟨v, hv, hrow, _⟩, hB⟩ hK
    have hc := hv.cell
    gi_wp2
    refine ⟨by simp, .inl ⟨_, _, rfl, run_takeDeferred hK, ?_⟩⟩
    exact ⟨_, results_tmp rfl _ _ _, v, ys, hys, rfl, ownsRow_putObj hrow _ hK rfl, hB.trans (belowK_b (w := w) (Nat.le_refl _) W D _ _ (by omega) hK rfl rfl)⟩
  case stop =>
    rintro D c pre W _ _ h _
    exact h.elim
end St
end Go.Proofs.YteekonojmpihlaaDoor
