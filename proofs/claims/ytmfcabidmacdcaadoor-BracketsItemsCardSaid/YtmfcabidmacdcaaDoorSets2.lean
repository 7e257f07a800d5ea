/- (Set).List. Condition: the table of TrailingZeros64 reads as laid. -/
import Derived.Test.YtmfcabidmacdcaaDoorSets1
import Derived.Test.YtmfcabidmacdcaaDoorEl8
namespace Go.Proofs.YtmfcabidmacdcaaDoor
open Go Go.RowKit Go.Shelf Kt
namespace St
open Mk
attribute [local go_sem] Oper.semAt_some
def b8 (x : Fin 256) : Value := .int .u8 ((x.val : Nat) : Int)
set_option maxRecDepth 100000 in
set_option maxHeartbeats 2000000 in
theorem list_c (ws : List Nat) (hl : ws.length = 4) (hlt : ∀ x ∈ ws, x < 18446744073709551616) (w : World) (hT : Bt.Tab w) :
    Calls Tryd.prog 62 #[sv ws] w fun e W' => ∃ v, ∃ q : List (Fin 256), q.map Fin.val = all ws ∧ e = .returned v ∧ W'.ownsRow w.heap.size 5 1 v q.length (q.map b8) ∧ Below w.heap.size w W' := by
  obtain ⟨i0, hi, hz0, hz1, hz2⟩ := Num.elU8.info
  refine (callsIn_wide (n := 3)).1 ?_
  obtain ⟨x0, x1, x2, x3, hws⟩ := four hl
  have hsv : sv ws = .agg #[.int .u64 (x0 : Int), .int .u64 (x1 : Int), .int .u64 (x2 : Int), .int .u64 (x3 : Int)] := by rw [hws]; rfl
  have hvals : (vals ws).toArray = #[.int .u64 (x0 : Int), .int .u64 (x1 : Int), .int .u64 (x2 : Int), .int .u64 (x3 : Int)] := by rw [hws]; rfl
  have hall := fun n w => all_in n ws hl w
  rw [hsv, hvals] at hall
  have HA := Lib.hid hall
  rw [hsv]
  refine callsIn_of_wp_marks Tryd.func62 rfl trivial ?_ rfl
  simp only [Tryd.ntmps62, List.size_toArray, List.length_cons, List.length_nil, Nat.reduceAdd, Nat.reduceSub, Array.replicate_succ, Array.replicate_zero, List.push_toArray, List.append_toArray, List.nil_append, List.cons_append]
  gi_wp2_with (refine ⟨trivial, ?_⟩; gi_at_call 112; refine (HA.out _ _).mono ?_; rintro e w' ⟨rfl, rfl⟩)
  obtain ⟨w3, hw3⟩ : ∃ w3, (((w.alloc (.cells #[.int .u64 (x0 : Int), .int .u64 (x1 : Int), .int .u64 (x2 : Int), .int .u64 (x3 : Int)] 25)).alloc (.cells #[.slice none 0 0] 40)).alloc (.cells #[.int .u64 (x0 : Int), .int .u64 (x1 : Int), .int .u64 (x2 : Int), .int .u64 (x3 : Int)] 25)) = w3 := ⟨_, rfl⟩
  have hs3 : w3.heap.size = w.heap.size + 1 + 1 + 1 := by rw [← hw3]; simp
  have hB0 : Below w.heap.size w w3 := by
    rw [← hw3]
    exact (((Below.refl _ w).alloc (Nat.le_refl _) _).alloc (by simp) _).alloc (by simp; omega) _
  have bO : Boxed w3 (w.heap.size + 1) 40 (.slice none 0 0) := by
    rw [← hw3]
    have := Boxed.new (w.alloc (.cells #[.int .u64 (x0 : Int), .int .u64 (x1 : Int), .int .u64 (x2 : Int), .int .u64 (x3 : Int)] 25)) 40 (.slice none 0 0)
    rw [World.size_alloc] at this
    exact this.alloc _
  have hBn : w3.heap[w.heap.size + 1 + 1]? = some (.cells (vals ws).toArray 25 (0, 0)) := by
    rw [← hw3, hvals]
    have := heap_alloc_new ((w.alloc (.cells #[.int .u64 (x0 : Int), .int .u64 (x1 : Int), .int .u64 (x2 : Int), .int .u64 (x3 : Int)] 25)).alloc (.cells #[.slice none 0 0] 40)) (.cells #[.int .u64 (x0 : Int), .int .u64 (x1 : Int), .int .u64 (x2 : Int), .int .u64 (x3 : Int)] 25)
    rw [World.size_alloc, World.size_alloc] at this
    exact this
  have hstops := all_stops (3 - 1) (by omega) (w.heap.size + 1 + 1) w.heap.size ws hl hlt w3 hBn (by omega) (fun W' h => hT.below (hB0.trans h))
  rw [hw3]
  clear hw3 hBn hvals hsv hall HA hT
  refine wpIn_rangeFunc_ownG rfl (by omega) (gf := 151) (lb := #[.pointer (some ⟨w.heap.size + 1 + 1, 0, none⟩)]) rfl trivial (enters_of Tryd.func151 (by kernel_rfl) rfl)
    hstops belowK_t (belowK_b (by omega)) (Below.refl _ _) (fun _ => rfl)
    (fun (pre : List (Fin 256)) W => (∃ v, Boxed W (w.heap.size + 1) 40 v ∧ W.ownsRow w.heap.size 5 1 v pre.length (pre.map b8) ∧ True) ∧ Below w.heap.size w W)
    (fun _ _ _ => False)
    (OwnFrom.and (Own.from (holdsRow_own w.heap.size (w.heap.size + 1) 40 5 1 (fun (pre : List (Fin 256)) => pre.length) (fun pre => pre.map b8) (fun _ _ => True)) _) (ownFrom_below (Nat.le_refl _) (by omega)))
    (fun _ _ _ _ _ hs _ _ => hs)
    ⟨⟨_, bO, World.ownsRow_nil _ _ _ _, trivial⟩, hB0⟩
    (fun (x : Fin 256) => { tmps := #[.agg #[.int .u64 (x0 : Int), .int .u64 (x1 : Int), .int .u64 (x2 : Int), .int .u64 (x3 : Int)], .pointer (some ⟨w.heap.size, 0, none⟩), .slice none 0 0, .pointer (some ⟨w.heap.size + 1, 0, none⟩), .int .i64 ((x.val : Nat) : Int), .agg #[.int .u64 (x0 : Int), .int .u64 (x1 : Int), .int .u64 (x2 : Int), .int .u64 (x3 : Int)], .func (.func 151) #[] #[.pointer (some ⟨w.heap.size + 1 + 1, 0, none⟩)], .int .i64 ((x.val : Nat) : Int), undef, undef, undef, undef, undef, undef], defers := [] }) ?assign ?body ?done ?stop
  case assign =>
    intro l x W K hK
    unfold enc
    gi_wp2
    exact hK
  case body =>
    rintro l pre x W ⟨⟨v, hv, hrow, _⟩, hB⟩ hlt2
    have hc := hv.cell
    have hxl := x.isLt
    have hx8 : ((x.val : Nat) : Int) % 256 = ((x.val : Nat) : Int) := by omega
    have hmap : (pre ++ [x]).map b8 = pre.map b8 ++ [.int .u8 ((x.val : Nat) : Int)] := by simp [b8]
    have hlen : (pre ++ [x]).length = pre.length + 1 := by simp
    have Hmap := Lib.hid hmap
    have Hlen := Lib.hid hlen
    clear hmap hlen
    generalize x.val = xv at *
    gi_wp2_with (gi_at_builtin; refine wpListIn_append_own _ rfl _ _ 40 rfl w.heap.size 5 i0 (.int .u8 0) 1 1 Tryd.underlying40 hi hz0 hz1 hz2 rfl (by decide) _ _ _ rfl (hrow.alloc _) ⟨W.heap.size, 0, none⟩ 1 1 [.int .u8 (xv : Int)] rfl rfl (cell_one_new _ _ _) (by simp [Value.oneCell']) (by unfold maxLen; omega) (by omega) (by have := hB.size; simp; omega) ?_; intro v' w1 hown' hgrow _; obtain ⟨g', cap', rfl⟩ := ownsRow_succ hown'; obtain ⟨hv1, hv2, hr2, hk2, hb2⟩ := hv.appended (by decide) hrow hB.size (by omega) hown' hgrow; have hc1 := hv1.cell; have hf1 := hv1.frozen)
    exact ⟨hk2.from _, hb2, ⟨_, hv2, by rw [Hmap.out, Hlen.out]; exact hr2, trivial⟩, hB.trans hb2⟩
  case done =>
    rintro D ys W hD hys ⟨⟨v, hv, hrow, _⟩, hB⟩ hK
    have hc := hv.cell
    gi_wp2
    refine ⟨by simp, .inl ⟨_, _, rfl, run_takeDeferred hK, ?_⟩⟩
    exact ⟨_, results_tmp rfl _ _ _, v, ys, hys, rfl, ownsRow_putObj hrow _ hK rfl, hB.trans (belowK_b (w := w) (Nat.le_refl _) W D _ _ (by omega) hK rfl rfl)⟩
  case stop =>
    rintro D c pre W _ _ h _
    exact h.elim
end St
end Go.Proofs.YtmfcabidmacdcaaDoor
