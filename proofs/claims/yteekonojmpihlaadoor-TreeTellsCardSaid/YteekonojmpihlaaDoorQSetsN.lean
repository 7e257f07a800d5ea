import Derived.Test.YteekonojmpihlaaDoorQSetsR
import Derived.Test.YteekonojmpihlaaDoorQSets3
import Derived.Test.YteekonojmpihlaaDoorQSetsR3
import Derived.Test.YteekonojmpihlaaDoorQBuildM
/- Plain law of chapter 01: what spans cover; how many are in. -/
namespace Go.Proofs.YteekonojmpihlaaDoor
open Go Go.RowKit Kt
namespace St
open Mk
theorem all_spec {ws : List Nat} {f : Nat → Bool} (h : IsSet ws f) : all ws = (List.range 256).filter f := by
  unfold all
  rw [h.len]
  apply List.filter_congr
  intro q hq
  exact h.at' q (by simpa using hq)
end St
end Go.Proofs.YteekonojmpihlaaDoor

/- (Set).Nth, (Set).Least. Condition: the table of TrailingZeros64 reads as laid. -/
namespace Go.Proofs.YteekonojmpihlaaDoor
open Go Go.RowKit Go.Shelf Kt
namespace St
open Mk
attribute [local go_sem] Oper.semAt_some
/-- The one at a place, or -1. -/
def nthOf (l : List Nat) (n : Int) : Int := if 0 ≤ n then (match l[n.toNat]? with | some x => (x : Int) | none => -1) else -1
theorem nth_neg (l : List Nat) (n : Int) (h : n < 0) : nthOf l n = -1 := by unfold nthOf; rw [if_neg (by omega)]
theorem nth_out (l : List Nat) (k : Nat) (h : l.length ≤ k) : nthOf l (k : Int) = -1 := by
  unfold nthOf
  rw [if_pos (by omega), show ((k : Int)).toNat = k by omega, List.getElem?_eq_none h]
theorem nth_in (l : List Nat) (k x : Nat) (h : l[k]? = some x) : nthOf l (k : Int) = (x : Int) := by
  unfold nthOf
  rw [if_pos (by omega), show ((k : Int)).toNat = k by omega, h]
theorem nth_pre {pre l : List Nat} {k x : Nat} (hk : pre.length = k) (h : pre ++ [x] <+: l) : nthOf l (k : Int) = (x : Int) := by
  obtain ⟨t, rfl⟩ := h
  apply nth_in
  subst hk
  simp
theorem all_256 {ws : List Nat} (h : ws.length = 4) : (all ws).length ≤ 256 := by
  unfold all
  refine Nat.le_trans (List.length_filter_le _ _) ?_
  rw [List.length_range, h]
  exact Nat.le_refl _
set_option maxRecDepth 100000 in
set_option maxHeartbeats 2000000 in
theorem nth_mid (ws : List Nat) (f : Nat → Bool) (hw : IsSet ws f) (n : Nat) (hn : n < 256) (w : World) (hT : Bt.Tab w) :
    Calls Tryd.prog 127 #[sv ws, .int .i64 (n : Int)] w fun e W' => e = .returned (.int .i64 (nthOf (all ws) (n : Int))) ∧ Below w.heap.size w W' := by
  have hl := hw.len
  have hlt := hw.lt
  refine (callsIn_wide (n := 3)).1 ?_
  obtain ⟨x0, x1, x2, x3, hws⟩ := four hl
  have hsv : sv ws = .agg #[.int .u64 (x0 : Int), .int .u64 (x1 : Int), .int .u64 (x2 : Int), .int .u64 (x3 : Int)] := by rw [hws]; rfl
  have hvals : (vals ws).toArray = #[.int .u64 (x0 : Int), .int .u64 (x1 : Int), .int .u64 (x2 : Int), .int .u64 (x3 : Int)] := by rw [hws]; rfl
  have hall := fun n w => all_in n ws hl w
  rw [hsv, hvals] at hall
  have HA := Lib.hid hall
  rw [hsv]
  have hd0 : decide ((n : Int) < 0) = false := by simp
  have hd1 : decide (256 ≤ (n : Int)) = false := by simp; omega
  refine callsIn_of_wp_marks Tryd.func127 rfl trivial ?_ rfl
  simp only [Tryd.ntmps127, List.size_toArray, List.length_cons, List.length_nil, Nat.reduceAdd, Nat.reduceSub, Array.replicate_succ, Array.replicate_zero, List.push_toArray, List.append_toArray, List.nil_append, List.cons_append]
  gi_wp2_with (refine ⟨trivial, ?_⟩; gi_at_call 142; refine (HA.out _ _).mono ?_; rintro e w' ⟨rfl, rfl⟩)
  obtain ⟨w3, hw3⟩ : ∃ w3, ((((w.alloc (.cells #[.int .u64 (x0 : Int), .int .u64 (x1 : Int), .int .u64 (x2 : Int), .int .u64 (x3 : Int)] 34)).alloc (.cells #[.int .i64 (n : Int)] 3)).alloc (.cells #[.int .i64 0] 3)).alloc (.cells #[.int .u64 (x0 : Int), .int .u64 (x1 : Int), .int .u64 (x2 : Int), .int .u64 (x3 : Int)] 34)) = w3 := ⟨_, rfl⟩
  have hs3 : w3.heap.size = w.heap.size + 1 + 1 + 1 + 1 := by rw [← hw3]; simp
  have hB0 : Below w.heap.size w w3 := by
    rw [← hw3]
    exact ((((Below.refl _ w).alloc (Nat.le_refl _) _).alloc (by simp) _).alloc (by simp; omega) _).alloc (by simp; omega) _
  have bN : Boxed w3 (w.heap.size + 1) 3 (.int .i64 ((n : Int) - (([] : List (Fin 256)).length : Int))) := by
    rw [← hw3]
    have := Boxed.new (w.alloc (.cells #[.int .u64 (x0 : Int), .int .u64 (x1 : Int), .int .u64 (x2 : Int), .int .u64 (x3 : Int)] 34)) 3 (.int .i64 (n : Int))
    rw [World.size_alloc] at this
    rw [show (n : Int) - (([] : List (Fin 256)).length : Int) = (n : Int) by simp]
    exact (this.alloc _).alloc _
  have bR : Boxed w3 (w.heap.size + 1 + 1) 3 (.int .i64 0) := by
    rw [← hw3]
    have := Boxed.new ((w.alloc (.cells #[.int .u64 (x0 : Int), .int .u64 (x1 : Int), .int .u64 (x2 : Int), .int .u64 (x3 : Int)] 34)).alloc (.cells #[.int .i64 (n : Int)] 3)) 3 (.int .i64 0)
    rw [World.size_alloc, World.size_alloc] at this
    exact this.alloc _
  have hBn : w3.heap[w.heap.size + 1 + 1 + 1]? = some (.cells (vals ws).toArray 34 (0, 0)) := by
    rw [← hw3, hvals]
    have := heap_alloc_new (((w.alloc (.cells #[.int .u64 (x0 : Int), .int .u64 (x1 : Int), .int .u64 (x2 : Int), .int .u64 (x3 : Int)] 34)).alloc (.cells #[.int .i64 (n : Int)] 3)).alloc (.cells #[.int .i64 0] 3)) (.cells #[.int .u64 (x0 : Int), .int .u64 (x1 : Int), .int .u64 (x2 : Int), .int .u64 (x3 : Int)] 34)
    rw [World.size_alloc, World.size_alloc, World.size_alloc] at this
    exact this
  have hstops := all_stops (3 - 1) (by omega) (w.heap.size + 1 + 1 + 1) w.heap.size ws hl hlt w3 hBn (by omega) (fun W' h => hT.below (hB0.trans h))
  rw [hw3]
  clear hw3 hBn hvals hsv hall HA hT
  refine wpIn_rangeFunc_ownG rfl (by omega) (gf := 149) (lb := #[.pointer (some ⟨w.heap.size + 1 + 1 + 1, 0, none⟩)]) rfl trivial (enters_of Tryd.func149 (by kernel_rfl) rfl)
    hstops belowK_t (belowK_b (by omega)) (Below.refl _ _) (fun _ => rfl)
    (fun (pre : List (Fin 256)) W => (pre.length ≤ n ∧ Boxed W (w.heap.size + 1) 3 (.int .i64 ((n : Int) - (pre.length : Int))) ∧ Boxed W (w.heap.size + 1 + 1) 3 (.int .i64 0)) ∧ Below w.heap.size w W)
    (fun c (pre : List (Fin 256)) W => (c = .ret ∧ ∃ (q : List (Fin 256)) (x : Fin 256), pre = q ++ [x] ∧ q.length = n ∧ Boxed W (w.heap.size + 1 + 1) 3 (.int .i64 ((x.val : Nat) : Int))) ∧ Below w.heap.size w W)
    (OwnFrom.and (Own.from (fun s A B row hs hg hr => ⟨hs.1, boxed_own (w.heap.size + 1) 3 (fun (pre : List (Fin 256)) => .int .i64 ((n : Int) - (pre.length : Int))) s A B row hs.2.1 hg hr, boxed_own (w.heap.size + 1 + 1) 3 (fun (_ : List (Fin 256)) => .int .i64 0) s A B row hs.2.2 hg hr⟩) _) (ownFrom_below (Nat.le_refl _) (by omega)))
    (fun c => OwnFrom.and (Own.from (fun s A B row hs hg hr => ⟨hs.1, by obtain ⟨q, x, h1, h2, h3⟩ := hs.2; exact ⟨q, x, h1, h2, boxed_own (w.heap.size + 1 + 1) 3 (fun (x : Fin 256) => .int .i64 ((x.val : Nat) : Int)) x A B row h3 hg hr⟩⟩) _) (ownFrom_below (Nat.le_refl _) (by omega)))
    ⟨⟨Nat.zero_le _, bN, bR⟩, hB0⟩
    (fun (x : Fin 256) => { tmps := #[.agg #[.int .u64 (x0 : Int), .int .u64 (x1 : Int), .int .u64 (x2 : Int), .int .u64 (x3 : Int)], .int .i64 (n : Int), .pointer (some ⟨w.heap.size, 0, none⟩), .pointer (some ⟨w.heap.size + 1, 0, none⟩), .pointer (some ⟨w.heap.size + 1 + 1, 0, none⟩), .int .i64 ((x.val : Nat) : Int), .int .i64 (n : Int), .bool false, .bool false, .int .i64 (n : Int), .bool false, .bool false, .agg #[.int .u64 (x0 : Int), .int .u64 (x1 : Int), .int .u64 (x2 : Int), .int .u64 (x3 : Int)], .func (.func 149) #[] #[.pointer (some ⟨w.heap.size + 1 + 1 + 1, 0, none⟩)], .int .i64 ((x.val : Nat) : Int), undef, undef, undef, undef, undef], defers := [] }) ?assign ?body ?done ?stop
  case assign =>
    intro l x W K hK
    unfold enc
    gi_wp2
    exact hK
  case body =>
    rintro l pre x W ⟨⟨hp, bN, bR⟩, hB⟩ hlt2
    have hc := bN.cell
    have hf := bN.frozen
    have hcr := bR.cell
    have hfr := bR.frozen
    by_cases hz : (n : Int) - (pre.length : Int) = 0
    · have hz' : ((n : Int) - (pre.length : Int) == 0) = true := by simp [hz]
      gi_wp2
      exact ⟨(KeepsOthers.setCell _ _ _).from _, ⟨rfl, pre, x, rfl, by omega, bR.set _⟩, hB.setCell (p := ⟨w.heap.size + 1 + 1, 0, none⟩) (by simp; omega) _⟩
    · have hz' : ((n : Int) - (pre.length : Int) == 0) = false := by simpa using hz
      have hwr : IntKind.i64.wrap ((n : Int) - (pre.length : Int) - 1) = (n : Int) - ((pre ++ [x]).length : Int) := by
        rw [IntWalk.i64_in _ ⟨by omega, by omega⟩]
        simp
        omega
      have hlen : ((pre ++ [x]).length : Int) = (pre.length : Int) + 1 := by simp
      have Hlen := Lib.hid hlen
      clear hlen
      gi_wp2
      exact ⟨(KeepsOthers.setCell _ _ _).from _, (Below.refl _ _).setCell (p := ⟨w.heap.size + 1, 0, none⟩) (by simp) _, ⟨by simp; omega, by rw [Hlen.out]; exact bN.set _, bR.other (by omega) _⟩, hB.setCell (p := ⟨w.heap.size + 1, 0, none⟩) (by simp) _⟩
  case done =>
    rintro D ys W hD hys ⟨⟨hp, bN, bR⟩, hB⟩ hK
    have hcr := bR.cell
    have hfr := bR.frozen
    gi_wp2
    have hK' := (KeepsOthers.setCell W ⟨w.heap.size + 1 + 1, 0, none⟩ (.int .i64 (-1))).same D _ hK rfl
    refine ⟨by simp, .inl ⟨_, _, rfl, run_takeDeferred hK', ?_⟩⟩
    have hc5 := cell_kept (World.cell?_setCell_same' W ⟨w.heap.size + 1 + 1, 0, none⟩ (.int .i64 (-1)) (by rw [hcr]; rfl)) (grownBy_putObj' _ D (.deferred none)) (fun r e => by cases e; exact ⟨_, hK', rfl⟩)
    have hlen : (all ws).length ≤ n := by rw [← hys, List.length_map]; exact hp
    refine ⟨.int .i64 (-1), ?_, by rw [nth_out _ _ hlen], (hB.setCell (p := ⟨w.heap.size + 1 + 1, 0, none⟩) (by simp; omega) _).trans (belowK_b (w := w) (Nat.le_refl _) _ D _ _ (by omega) hK' rfl rfl)⟩
    simp [results, Tryd.f127, go_sem, hc5]
  case stop =>
    rintro D c pre W hD hpre ⟨⟨rfl, q, x, rfl, hq, bR⟩, hB⟩ hK
    gi_wp2
    refine ⟨by simp, .inl ⟨_, _, rfl, run_takeDeferred hK, ?_⟩⟩
    have hc5 := cell_kept bR.cell (grownBy_putObj' _ D (.deferred none)) (fun r e => by cases e; exact ⟨_, hK, rfl⟩)
    rw [List.map_append] at hpre
    refine ⟨.int .i64 ((x.val : Nat) : Int), ?_, by rw [nth_pre (pre := q.map Fin.val) (by simpa using hq) hpre], hB.trans (belowK_b (w := w) (Nat.le_refl _) W D _ _ (by omega) hK rfl rfl)⟩
    simp [results, Tryd.f127, go_sem, hc5]
set_option maxRecDepth 100000 in
set_option maxHeartbeats 1000000 in
theorem nth_c (ws : List Nat) (f : Nat → Bool) (hw : IsSet ws f) (n : Int) (w : World) (hT : Bt.Tab w) :
    Calls Tryd.prog 127 #[sv ws, .int .i64 n] w fun e W' => e = .returned (.int .i64 (nthOf (all ws) n)) ∧ Below w.heap.size w W' := by
  by_cases h0 : n < 0
  · rw [nth_neg _ _ h0]
    have hd0 : decide (n < 0) = true := by simpa using h0
    obtain ⟨x0, x1, x2, x3, rfl⟩ := four hw.len
    have HB := Lib.hid (Below.refl w.heap.size w)
    have hr := heap_alloc_new ((w.alloc (.cells #[.int .u64 (x0 : Int), .int .u64 (x1 : Int), .int .u64 (x2 : Int), .int .u64 (x3 : Int)] 34)).alloc (.cells #[.int .i64 n] 3)) (.cells #[.int .i64 0] 3)
    clear hT hw
    simp only [sv, vals, List.map_cons, List.map_nil]
    go_enter Tryd.func127, Tryd.ntmps127
    go_wp2
    (try simp only [Exit.inBlock, Exit.then])
    refine bodyPost_ret (v := .int .i64 (-1)) (by simp [results, Tryd.f127, go_sem]) rfl ?_
    exact ⟨rfl, (((HB.out.alloc (Nat.le_refl _) _).alloc (by simp) _).alloc (by simp; omega) _)⟩
  · obtain ⟨k, rfl⟩ : ∃ k : Nat, n = (k : Int) := ⟨n.toNat, by omega⟩
    by_cases h1 : k < 256
    · exact nth_mid ws f hw k h1 w hT
    · rw [nth_out _ _ (by have := all_256 hw.len; omega)]
      have hd0 : decide ((k : Int) < 0) = false := by simp
      have hd1 : decide (256 ≤ (k : Int)) = true := by simp; omega
      obtain ⟨x0, x1, x2, x3, rfl⟩ := four hw.len
      have HB := Lib.hid (Below.refl w.heap.size w)
      clear hT hw
      simp only [sv, vals, List.map_cons, List.map_nil]
      go_enter Tryd.func127, Tryd.ntmps127
      go_wp2
      (try simp only [Exit.inBlock, Exit.then])
      refine bodyPost_ret (v := .int .i64 (-1)) (by simp [results, Tryd.f127, go_sem]) rfl ?_
      exact ⟨rfl, (((HB.out.alloc (Nat.le_refl _) _).alloc (by simp) _).alloc (by simp; omega) _)⟩
set_option maxRecDepth 100000 in
theorem least_c (ws : List Nat) (f : Nat → Bool) (hw : IsSet ws f) (w : World) (hT : Bt.Tab w) :
    Calls Tryd.prog 111 #[sv ws] w fun e W' => e = .returned (.int .i64 (nthOf (all ws) 0)) ∧ Below w.heap.size w W' := by
  have hc := fun W hT => nth_c ws f hw 0 W hT
  obtain ⟨x0, x1, x2, x3, rfl⟩ := four hw.len
  generalize nthOf (all [x0, x1, x2, x3]) 0 = r at *
  simp only [sv, vals, List.map_cons, List.map_nil] at hc ⊢
  have hB0 := (Below.refl w.heap.size w).alloc (Nat.le_refl _) (.cells #[.int .u64 (x0 : Int), .int .u64 (x1 : Int), .int .u64 (x2 : Int), .int .u64 (x3 : Int)] 34)
  have HC := Lib.hid (hc _ (hT.below hB0))
  have HB := Lib.hid hB0
  clear hc hB0 hT hw
  go_enter Tryd.func111, Tryd.ntmps111
  go_wp2_with fail
  refine HC.out.mono ?_
  rintro e w2 ⟨rfl, hb2⟩
  go_wp2
  go_ret
  exact ⟨rfl, HB.out.trans (hb2.mono HB.out.size)⟩
end St
end Go.Proofs.YteekonojmpihlaaDoor
