import Derived.RangeFuncNested
import Derived.RangeFuncBound
import Derived.RangeFuncCalls
import Derived.RangeFuncLeaves
import Derived.RangeFuncBox
import Derived.Shelf.Abstract
import Derived.Shelf.RegionOpen
import Derived.OwnWalkIn
import Derived.TacticsInMore
import Derived.LoopNIn
import Derived.LoopIn
import Derived.Maps.AppendAt
import Derived.Test.YteekonojmpihlaaDoorQSetsEnds
import Derived.Test.YteekonojmpihlaaDoorQBits
import Derived.Laws.IdiomArrays
import Derived.OpenShut
import Derived.ChangeKeysEq
/- The iterator of sets: (Set).all. Condition: the table of TrailingZeros64 reads as laid. -/
namespace Go.Proofs.YteekonojmpihlaaDoor
open Go Go.RowKit Go.Shelf Kt
namespace St
open Mk
attribute [local go_sem] Oper.semAt_some
def vals (ws : List Nat) : List Value := ws.map fun (x : Nat) => .int .u64 (x : Int)
/-- A set's value. -/
def sv (ws : List Nat) : Value := .agg (vals ws).toArray
set_option maxRecDepth 100000 in
theorem index_run {ws : List Nat} (h : ws.length = 4) (i : Nat) (hi : i < 4) (w : World) : (Instr.index 34 (sv ws) (.int .i64 (i : Int))).run Tryd.prog w = .ok (.int .u64 (ws.getD i 0 : Nat)) w := by
  obtain ⟨a, b, c, d, rfl⟩ := four h
  have hi4 : i = 0 ∨ i = 1 ∨ i = 2 ∨ i = 3 := by omega
  rcases hi4 with rfl | rfl | rfl | rfl <;> rfl
/-- The inner loop. -/
def InR (J : List Nat → World → Prop) (ws : List Nat) (k xk n₀ : Nat) (W : World) (v : Value) (wr : World) : Prop := ∃ t v' : Nat, t ≤ 64 ∧ v = .int .u64 (v' : Int) ∧ xk / 2 ^ t * 2 ^ t = v' ∧ J (El ws k t) wr ∧ Below n₀ W wr
set_option maxRecDepth 100000 in
set_option maxHeartbeats 2000000 in
theorem all1_in (n : Nat) (hn : 1 ≤ n) (l Bn n₀ : Nat) (ws : List Nat) (hl : ws.length = 4) (hlt : ∀ x ∈ ws, x < 18446744073709551616) (J Jx : List Nat → World → Prop)
    (hY : ∀ pre x W, J pre W → pre.length < 256 → x < 256 → YieldAt Fence.wide (n - 1) Tryd.prog l #[.int .i64 ((x : Nat) : Int)] W fun e W' =>
      (e = .returned (.bool true) ∧ J (pre ++ [x]) W' ∧ Below n₀ W W') ∨ (e = .returned (.bool false) ∧ Jx (pre ++ [x]) W'))
    (W : World) (hBn : W.heap[Bn]? = some (.cells (vals ws).toArray 34 (0, 0))) (hn₀ : ∀ W', Below n₀ W W' → Bt.Tab W') (h0 : J [] W) :
    CallsIn Fence.wide n Tryd.prog 149 #[.func (.yield l) #[] #[], .pointer (some ⟨Bn, 0, none⟩)] W fun e W' => (∃ v, e = .returned v) ∧
      ((∃ ys, ys = all ws ∧ J ys W') ∨ (∃ pre, pre <+: all ws ∧ Jx pre W')) := by
  obtain ⟨x0, x1, x2, x3, hws⟩ := four hl
  have c0 : W.cell? ⟨Bn, 0, none⟩ = some (.int .u64 (x0 : Int)) := by rw [cell_block hBn, hws]; rfl
  have c1 : W.cell? ⟨Bn, 1, none⟩ = some (.int .u64 (x1 : Int)) := by rw [cell_block hBn, hws]; rfl
  have c2 : W.cell? ⟨Bn, 2, none⟩ = some (.int .u64 (x2 : Int)) := by rw [cell_block hBn, hws]; rfl
  have c3 : W.cell? ⟨Bn, 3, none⟩ = some (.int .u64 (x3 : Int)) := by rw [cell_block hBn, hws]; rfl
  refine callsIn_of_wp Tryd.func149 rfl trivial ?_ rfl
  simp only [Tryd.ntmps149, List.size_toArray, List.length_cons, List.length_nil, Nat.reduceAdd, Nat.reduceSub, Array.replicate_succ, Array.replicate_zero, List.push_toArray, List.append_toArray, List.nil_append, List.cons_append]
  gi_wp2
  have hidx := fun (i : Nat) (hi : i < 4) (w : World) => index_run hl i hi w
  have hsv : sv ws = .agg #[.int .u64 (x0 : Int), .int .u64 (x1 : Int), .int .u64 (x2 : Int), .int .u64 (x3 : Int)] := by rw [hws]; rfl
  have hword : ∀ i, ws.getD i 0 < 18446744073709551616 := fun i => by
    rw [List.getD_eq_getElem?_getD]
    cases hg : ws[i]? with
    | none => simp
    | some y => exact hlt y (List.mem_of_getElem? hg)
  have Hid := Lib.hid hidx
  have Hsv := Lib.hid hsv
  have Hw := Lib.hid hword
  have HY := Lib.hid hY
  have HT := Lib.hid hn₀
  have Hall := Lib.hid (el_all hl)
  have H0 := Lib.hid h0
  have Hl := Lib.hid hl
  clear hidx hsv hword hY hn₀ h0 hBn hlt c0 c1 c2 c3 hws hl
  gi_loopw [3, 4, 6] (fun _ _ i wr => ∃ k : Nat, k ≤ 4 ∧ i = .int .i64 (k : Int) ∧ J (El ws k 0) wr ∧ Below n₀ W wr) (fun _ _ i _ => 4 - (intOf i).toNat)
  case atStart => exact ⟨0, by omega, rfl, by rw [el_zero]; exact H0.out, Below.refl _ _⟩
  case round =>
    obtain ⟨k, hk, rfl, hJ, hB⟩ := hrel
    by_cases hk4 : k < 4
    · have hd4 : decide ((k : Int) < 4) = true := by simp; omega
      have hix := fun w => Hid.out k hk4 w
      rw [Hsv.out] at hix
      obtain ⟨xk, hxk⟩ : ∃ xk, ws.getD k 0 = xk := ⟨_, rfl⟩
      rw [hxk] at hix
      have Hxk := Lib.hid hxk
      have HJ := Lib.hid hJ
      have HB := Lib.hid hB
      clear hxk hJ hB
      obtain ⟨wo, rfl⟩ : ∃ wo : World, wo = wr := ⟨_, rfl⟩
      gi_wp2
      gi_loopw [4] (fun v wr => InR J ws k xk n₀ W v wr) (fun v _ => (intOf v).toNat)
      case atStart => exact ⟨0, xk, by omega, rfl, by simp, HJ.out, HB.out⟩
      case round =>
        obtain ⟨t, v, ht, rfl, hv, hJ, hB⟩ := hrel
        have hv64 : v < 18446744073709551616 := by
          have h1 : v ≤ xk := by rw [← hv]; exact Nat.div_mul_le_self xk (2 ^ t)
          have := Hw.out k
          rw [Hxk.out] at this
          omega
        by_cases h0 : v = 0
        · subst h0
          have he := el_done (ws := ws) (i := k) ht (by rw [Hxk.out]; exact hv)
          rw [he, el_next_word] at hJ
          have HJ2 := Lib.hid hJ
          have HB2 := Lib.hid hB
          clear hJ hB hv he
          gi_wp2
          go_roundw
          case rel => exact ⟨k + 1, by omega, by go_num, HJ2.out, HB2.out⟩
          case measure => simp [intOf]; omega
        · obtain ⟨hc, hel, hnx⟩ := el_step (ws := ws) (i := k) (t := t) (v := v) (by rw [Hxk.out]; exact hv) h0 hv64
          rw [Hxk.out] at hnx
          have hal := and_lt h0
          have hlen : (El ws k t).length < 256 := by
            have h1 : (El ws k t).length ≤ 64 * k + t := by
              unfold El
              refine Nat.le_trans (List.length_filter_le _ _) ?_
              rw [List.length_range]
              exact Nat.le_refl _
            have h2 := (clear_low hv h0 hv64).2.1
            omega
          obtain ⟨fn, tmps, assign, body, hy, hR⟩ := HY.out (El ws k t) (64 * k + Lib.ctz 64 v) wr hJ hlen (by omega)
          have hcast : ((64 * k + Lib.ctz 64 v : Nat) : Int) = 64 * (k : Int) + (Lib.ctz 64 v : Int) := by omega
          rw [hcast] at hy
          have hC := Bt.ctz_c v hv64 h0 wr (HT.out _ hB)
          have hand := Bt.and64 (v : Int) ((v : Int) - 1) v (v - 1) _ rfl (by omega) hv64 (by omega) rfl
          have hv0 : ((v : Int) == 0) = false := by simp; omega
          have HC := Lib.hid hC
          have HB2 := Lib.hid hB
          have Hel := Lib.hid hel
          have Hnx := Lib.hid hnx
          rw [← hel] at hR
          clear hJ hB hel hnx hv hC hlen hcast
          generalize v &&& (v - 1) = u at *
          generalize Lib.ctz 64 v = c at *
          gi_wp2_with (refine ⟨trivial, ?_⟩; gi_at_call 150; refine (callsIn_wide.2 HC.out).mono ?_; rintro e w' ⟨rfl, rfl⟩)
          refine hR.mono ?_
          rintro e W3 (⟨rfl, hJ3, hk3⟩ | ⟨rfl, hJx3⟩)
          · have HJ3 := Lib.hid hJ3
            have HB3 := Lib.hid (HB2.out.trans hk3)
            clear hJ3 hk3
            gi_wp2
            go_roundw
            case rel => first | exact ⟨c + 1, u, by omega, rfl, Hnx.out, HJ3.out, HB3.out⟩ | ((repeat apply Exists.intro); refine ⟨?r, ?f⟩; (case f => (and_intros <;> rfl)); exact ⟨c + 1, u, by omega, rfl, Hnx.out, HJ3.out, HB3.out⟩)
            case measure => simp [intOf]; omega
          · have hp := el_prefix Hl.out k (c + 1) (by omega)
            rw [Hel.out] at hJx3
            have HP := Lib.hid hp
            have HJx := Lib.hid hJx3
            clear hp hJx3
            gi_wp2
            ((try simp only [Exit.inBlock, Exit.then]); refine bodyPost_ret (results_none rfl _ _ _) rfl ?_)
            exact ⟨⟨_, rfl⟩, .inr ⟨_, HP.out, by rw [Hel.out]; exact HJx.out⟩⟩
    · have hk4 : k = 4 := by omega
      subst hk4
      rw [Hall.out] at hJ
      gi_wp2
      go_end0
      exact ⟨⟨_, rfl⟩, .inl ⟨_, rfl, hJ⟩⟩
set_option maxRecDepth 100000 in
set_option maxHeartbeats 1000000 in
/-- s.all(): the receiver is boxed; the function value captures the box. -/
theorem all_in (n : Nat) (ws : List Nat) (hl : ws.length = 4) (w : World) :
    CallsIn Fence.wide n Tryd.prog 142 #[sv ws] w fun e w' => e = .returned (.func (.func 149) #[] #[.pointer (some ⟨w.heap.size, 0, none⟩)]) ∧ w' = w.alloc (.cells (vals ws).toArray 34) := by
  obtain ⟨x0, x1, x2, x3, rfl⟩ := four hl
  refine callsIn_of_wp Tryd.func142 rfl trivial ?_ rfl
  simp only [Tryd.ntmps142, sv, vals, List.map_cons, List.map_nil, List.size_toArray, List.length_cons, List.length_nil, Nat.reduceAdd, Nat.reduceSub, Array.replicate_succ, Array.replicate_zero, List.push_toArray, List.append_toArray, List.nil_append, List.cons_append]
  gi_wp2
  go_ret
  exact ⟨rfl, rfl⟩
def enc (x : Fin 256) : Array Value := #[.int .i64 ((x.val : Nat) : Int)]
theorem all_stops (n : Nat) (hn : 1 ≤ n) (Bn n₀ : Nat) (ws : List Nat) (hl : ws.length = 4) (hlt : ∀ x ∈ ws, x < 18446744073709551616) (w : World) (hBn : w.heap[Bn]? = some (.cells (vals ws).toArray 34 (0, 0))) (hn₀ : n₀ ≤ w.heap.size)
    (hT : ∀ W', Below n₀ w W' → Bt.Tab W') :
    SeqStopsK Fence.wide n Tryd.prog 149 #[.pointer (some ⟨Bn, 0, none⟩)] enc (Below n₀) (fun ys => ys.map Fin.val = all ws) (fun pre => pre.map Fin.val <+: all ws) 256 w := by
  intro l J Jx W hW _ _ hY h0
  refine (all1_in n hn l Bn n₀ ws hl hlt (fun pre W => ∃ q : List (Fin 256), q.map Fin.val = pre ∧ J q W) (fun pre W => ∃ q : List (Fin 256), q.map Fin.val = pre ∧ Jx q W) ?_ W ((hW.block Bn (block_lt hBn)).trans hBn) (fun W' h => hT W' ((hW.mono hn₀).trans h)) ⟨[], rfl, h0⟩).mono ?_
  · rintro pre x W1 ⟨q, rfl, hJ⟩ hlen hx
    rw [List.length_map] at hlen
    refine (hY q ⟨x, hx⟩ W1 hJ hlen).mono ?_
    rintro e W' (⟨h1, h2, h3⟩ | ⟨h1, h2⟩)
    · exact .inl ⟨h1, ⟨_, by simp, h2⟩, h3⟩
    · exact .inr ⟨h1, ⟨_, by simp, h2⟩⟩
  · rintro e W' ⟨h1, ⟨ys, rfl, q, hq, hJ⟩ | ⟨pre, hp, q, hq, hJ⟩⟩
    · exact ⟨h1, .inl ⟨q, hq, hJ⟩⟩
    · subst hq; exact ⟨h1, .inr ⟨q, hp, hJ⟩⟩
end St
end Go.Proofs.YteekonojmpihlaaDoor

/- A set that came in. -/
namespace Go.Proofs.YteekonojmpihlaaDoor
open Go Go.RowKit Kt
namespace St
open Mk
theorem wf_u64 {n : Int} (h : (Lit.int .u64 n).wf = true) : ∃ c : Nat, n = (c : Int) ∧ c < 18446744073709551616 := by
  have h1 : 0 ≤ n ∧ n ≤ 18446744073709551615 := bounds_u64 h
  exact ⟨n.toNat, by omega, by omega⟩
end St
end Go.Proofs.YteekonojmpihlaaDoor

/- The walks of package sets: Not, Or, And, Minus, All, Has, Len, Empty. -/
namespace Go.Proofs.YteekonojmpihlaaDoor
open Go Go.RowKit Kt
namespace Kt
theorem heap_alloc3_new (w : World) (A B C : Obj) : (((w.alloc A).alloc B).alloc C).heap[w.heap.size + 2]? = some C := by
  have h := heap_alloc_new ((w.alloc A).alloc B) C
  rw [World.size_alloc, World.size_alloc] at h
  exact h
theorem heap_alloc2_old (w : World) (A B : Obj) : ((w.alloc A).alloc B).heap[w.heap.size]? = some A := by
  rw [heap_alloc_old _ _ _ (by rw [World.size_alloc]; omega)]
  exact heap_alloc_new w A
end Kt
namespace St
open Mk
theorem xor64 (x : Nat) (hx : x < 18446744073709551616) : bits .xor .u64 18446744073709551615 (x : Int) = (nt x : Nat) := bits_xor_u64_nat 18446744073709551615 x (by decide) hx
set_option maxHeartbeats 1000000 in
set_option maxRecDepth 100000 in
theorem not_c (ws : List Nat) (f : Nat → Bool) (hw : IsSet ws f) (w : World) : Calls Tryd.prog 128 #[sv ws] w fun e w' => ∃ rs, e = .returned (sv rs) ∧ IsSet rs (fun c => !f c) ∧ Below w.heap.size w w' := by
  obtain ⟨x0, x1, x2, x3, rfl⟩ := four hw.len
  have h0 := hw.lt x0 (by simp)
  have h1 := hw.lt x1 (by simp)
  have h2 := hw.lt x2 (by simp)
  have h3 := hw.lt x3 (by simp)
  have n0 := xor64 x0 h0
  have n1 := xor64 x1 h1
  have n2 := xor64 x2 h2
  have n3 := xor64 x3 h3
  have hres : IsSet [nt x0, nt x1, nt x2, nt x3] (fun c => !f c) := by
    refine isSet_of (by intro x hx; simp at hx; rcases hx with rfl | rfl | rfl | rfl <;> exact nt_lt (by assumption)) fun i hi t ht => ?_
    have := hw.at' (64 * i + t) (by omega)
    rw [has_word _ _ _ ht] at this
    rw [← this]
    have hi4 : i = 0 ∨ i = 1 ∨ i = 2 ∨ i = 3 := by omega
    rcases hi4 with rfl | rfl | rfl | rfl <;> simp <;> exact nt_bit _ _ ht
  have HR := Lib.hid hres
  have HB := Lib.hid (Below.refl w.heap.size w)
  have hsg : IntKind.u64.signed = false := rfl
  have hmax : IntKind.u64.max = 18446744073709551615 := rfl
  clear hres hw
  simp only [sv, vals, List.map_cons, List.map_nil]
  go_enter Tryd.func128, Tryd.ntmps128
  go_wp2
  refine wp_loop_rounds 5 ?_
  rw [rounds_succ]
  go_wp2
  rw [rounds_succ]
  go_wp2
  rw [rounds_succ]
  go_wp2
  rw [rounds_succ]
  go_wp2
  rw [rounds_succ]
  go_wp2
  ((try simp only [Exit.inBlock, Exit.then]); refine bodyPost_ret (results_cell_row rfl _ _ (w.heap.size + 1) 34 ?cs1 (0, 0) _ rfl ?hg1 Tryd.underlying34 rfl ?hi1) rfl ?_; (case hg1 => first | exact heap_alloc2_new _ _ _ | exact Kt.heap_alloc3_new _ _ _ _ | exact Kt.heap_alloc2_old _ _ _); (case hi1 => kernel_rfl))
  exact ⟨_, rfl, HR.out, ((HB.out.alloc (Nat.le_refl _) _).alloc (by simp) _)⟩

end St
end Go.Proofs.YteekonojmpihlaaDoor

/- (Set).Spans. Condition: the table of TrailingZeros64 reads as laid. -/
namespace Go.Proofs.YteekonojmpihlaaDoor
open Go Go.RowKit Go.Shelf Kt
namespace St
open Mk
attribute [local go_sem] Oper.semAt_some
def brow (acc : List (Nat × Nat)) : List Value := acc.flatMap fun p => [.int .u8 ((p.1 : Nat) : Int), .int .u8 ((p.2 : Nat) : Int)]
theorem brow_snoc (q : List (Nat × Nat)) (lo hi : Nat) : brow (q ++ [(lo, hi)]) = brow q ++ [.int .u8 (lo : Int), .int .u8 (hi : Int)] := by simp [brow]
theorem brow_len (q : List (Nat × Nat)) : (brow q).length = q.length * 2 := by
  induction q with
  | nil => rfl
  | cons p q ih =>
    have e : brow (p :: q) = [.int .u8 ((p.1 : Nat) : Int), .int .u8 ((p.2 : Nat) : Int)] ++ brow q := by simp [brow]
    rw [e, List.length_append, ih, List.length_cons]
    simp
    omega
theorem elB : Kt.El Tryd.prog 183 186 (.agg #[.int .u8 0, .int .u8 0]) 2 2 := ⟨Tryd.underlying183, info_parts (by kernel_rfl), rfl, by decide⟩
theorem cell_two_new (W : World) (a b : Value) (t : TypeId) : ∀ j u, [a, b][j]? = some u → (W.alloc (.cells #[a, b] t)).cell? ((⟨W.heap.size, 0, none⟩ : Addr).add j) = some u := by
  intro j u hj
  match j, hj with
  | 0, hj =>
    simp at hj
    subst hj
    simp [Addr.add]
  | 1, hj =>
    simp at hj
    subst hj
    simp [Addr.add]
set_option maxRecDepth 100000 in
set_option maxHeartbeats 2000000 in
theorem spans_c (ws : List Nat) (hl : ws.length = 4) (hlt : ∀ x ∈ ws, x < 18446744073709551616) (w : World) (hT : Bt.Tab w) :
    Calls Tryd.prog 131 #[sv ws] w fun e W' => ∃ v, ∃ q : List (Fin 256), q.map Fin.val = all ws ∧ e = .returned v ∧ W'.ownsRow w.heap.size 186 2 v (sps (q.map Fin.val)).length (brow (sps (q.map Fin.val))) ∧ Below w.heap.size w W' := by
  obtain ⟨i0, hi, hz0, hz1, hz2⟩ := elB.info
  refine (callsIn_wide (n := 3)).1 ?_
  obtain ⟨x0, x1, x2, x3, hws⟩ := four hl
  have hsv : sv ws = .agg #[.int .u64 (x0 : Int), .int .u64 (x1 : Int), .int .u64 (x2 : Int), .int .u64 (x3 : Int)] := by rw [hws]; rfl
  have hvals : (vals ws).toArray = #[.int .u64 (x0 : Int), .int .u64 (x1 : Int), .int .u64 (x2 : Int), .int .u64 (x3 : Int)] := by rw [hws]; rfl
  have hall := fun n w => all_in n ws hl w
  rw [hsv, hvals] at hall
  have HA := Lib.hid hall
  rw [hsv]
  refine callsIn_of_wp_marks Tryd.func131 rfl trivial ?_ rfl
  simp only [Tryd.ntmps131, List.size_toArray, List.length_cons, List.length_nil, Nat.reduceAdd, Nat.reduceSub, Array.replicate_succ, Array.replicate_zero, List.push_toArray, List.append_toArray, List.nil_append, List.cons_append]
  gi_wp2_with (refine ⟨trivial, ?_⟩; gi_at_call 142; refine (HA.out _ _).mono ?_; rintro e w' ⟨rfl, rfl⟩)
  obtain ⟨w3, hw3⟩ : ∃ w3, (((w.alloc (.cells #[.int .u64 (x0 : Int), .int .u64 (x1 : Int), .int .u64 (x2 : Int), .int .u64 (x3 : Int)] 34)).alloc (.cells #[.slice none 0 0] 183)).alloc (.cells #[.int .u64 (x0 : Int), .int .u64 (x1 : Int), .int .u64 (x2 : Int), .int .u64 (x3 : Int)] 34)) = w3 := ⟨_, rfl⟩
  have hs3 : w3.heap.size = w.heap.size + 1 + 1 + 1 := by rw [← hw3]; simp
  have hB0 : Below w.heap.size w w3 := by
    rw [← hw3]
    exact (((Below.refl _ w).alloc (Nat.le_refl _) _).alloc (by simp) _).alloc (by simp; omega) _
  have bO : Boxed w3 (w.heap.size + 1) 183 (.slice none 0 0) := by
    rw [← hw3]
    have := Boxed.new (w.alloc (.cells #[.int .u64 (x0 : Int), .int .u64 (x1 : Int), .int .u64 (x2 : Int), .int .u64 (x3 : Int)] 34)) 183 (.slice none 0 0)
    rw [World.size_alloc] at this
    exact this.alloc _
  have hBn : w3.heap[w.heap.size + 1 + 1]? = some (.cells (vals ws).toArray 34 (0, 0)) := by
    rw [← hw3, hvals]
    have := heap_alloc_new ((w.alloc (.cells #[.int .u64 (x0 : Int), .int .u64 (x1 : Int), .int .u64 (x2 : Int), .int .u64 (x3 : Int)] 34)).alloc (.cells #[.slice none 0 0] 183)) (.cells #[.int .u64 (x0 : Int), .int .u64 (x1 : Int), .int .u64 (x2 : Int), .int .u64 (x3 : Int)] 34)
    rw [World.size_alloc, World.size_alloc] at this
    exact this
  have hstops := all_stops (3 - 1) (by omega) (w.heap.size + 1 + 1) w.heap.size ws hl hlt w3 hBn (by omega) (fun W' h => hT.below (hB0.trans h))
  rw [hw3]
  clear hw3 hBn hvals hsv hall HA hT
  refine wpIn_rangeFunc_ownG rfl (by omega) (gf := 149) (lb := #[.pointer (some ⟨w.heap.size + 1 + 1, 0, none⟩)]) rfl trivial (enters_of Tryd.func149 (by kernel_rfl) rfl)
    hstops belowK_t (belowK_b (by omega)) (Below.refl _ _) (fun _ => rfl)
    (fun (pre : List (Fin 256)) W => (∃ v, Boxed W (w.heap.size + 1) 183 v ∧ W.ownsRow w.heap.size 186 2 v (sps (pre.map Fin.val)).length (brow (sps (pre.map Fin.val))) ∧ True) ∧ Below w.heap.size w W)
    (fun _ _ _ => False)
    (OwnFrom.and (Own.from (holdsRow_own w.heap.size (w.heap.size + 1) 183 186 2 (fun (pre : List (Fin 256)) => (sps (pre.map Fin.val)).length) (fun pre => brow (sps (pre.map Fin.val))) (fun _ _ => True)) _) (ownFrom_below (Nat.le_refl _) (by omega)))
    (fun _ _ _ _ _ hs _ _ => hs)
    ⟨⟨_, bO, World.ownsRow_nil _ _ _ _, trivial⟩, hB0⟩
    (fun (x : Fin 256) => { tmps := #[.agg #[.int .u64 (x0 : Int), .int .u64 (x1 : Int), .int .u64 (x2 : Int), .int .u64 (x3 : Int)], .pointer (some ⟨w.heap.size, 0, none⟩), .slice none 0 0, .pointer (some ⟨w.heap.size + 1, 0, none⟩), .int .i64 ((x.val : Nat) : Int), undef, .agg #[.int .u64 (x0 : Int), .int .u64 (x1 : Int), .int .u64 (x2 : Int), .int .u64 (x3 : Int)], .func (.func 149) #[] #[.pointer (some ⟨w.heap.size + 1 + 1, 0, none⟩)], .int .i64 ((x.val : Nat) : Int), undef, undef, undef, undef, undef, undef, undef, undef, undef, undef, undef, undef, undef, undef, undef, undef, undef, undef, undef, undef, undef, undef, undef, undef, undef, undef, undef, undef, undef, undef, undef, undef], defers := [] }) ?assign ?body ?done ?stop
  case assign =>
    intro l x W K hK
    unfold enc
    gi_wp2
    exact hK
  case body =>
    rintro l pre x W ⟨⟨v, hv, hrow, _⟩, hB⟩ hlt2
    have hc := hv.cell
    have hxl := x.isLt
    have hx8 : ((x.val : Nat) : Int) % 256 = ((x.val : Nat) : Int) := by omega
    have hsn : sps ((pre ++ [x]).map Fin.val) = step (sps (pre.map Fin.val)) x.val := by rw [List.map_append, List.map_singleton, sps_snoc]
    have hpl : (sps (pre.map Fin.val)).length ≤ 256 := by
      have := sps_len (pre.map Fin.val)
      rw [List.length_map] at this
      omega
    have hbd : ∀ p ∈ sps (pre.map Fin.val), p.1 < 256 ∧ p.2 < 256 := sps_lt (fun y hy => by obtain ⟨z, _, rfl⟩ := List.mem_map.1 hy; exact z.isLt)
    have Hsn := Lib.hid hsn
    clear hsn
    generalize x.val = xv at *
    generalize sps (pre.map Fin.val) = acc at *
    rcases cases_last acc with rfl | ⟨q, lo, hi', rfl⟩
    · have hbr : brow (step [] xv) = brow [] ++ [.int .u8 (xv : Int), .int .u8 (xv : Int)] := rfl
      have Hbr := Lib.hid hbr
      clear hbr hbd
      obtain ⟨a, cap, rfl, _, _, _, _⟩ := rd_own hrow
      gi_wp2_with (gi_at_builtin; refine wpListIn_append_own _ rfl _ _ 183 rfl w.heap.size 186 i0 (.agg #[.int .u8 0, .int .u8 0]) 2 2 Tryd.underlying183 hi hz0 hz1 hz2 rfl (by decide) _ _ _ rfl (hrow.alloc _) ⟨W.heap.size, 0, none⟩ 1 1 [.int .u8 (xv : Int), .int .u8 (xv : Int)] rfl rfl (cell_two_new _ _ _ _) (by simp [Value.oneCell']) (by unfold maxLen; omega) (by omega) (by have := hB.size; simp; omega) ?_; intro v' w1 hown' hgrow _; obtain ⟨g', cap', rfl⟩ := ownsRow_succ hown'; obtain ⟨hv1, hv2, hr2, hk2, hb2⟩ := hv.appended (by decide) hrow hB.size (by omega) hown' hgrow; have hc1 := hv1.cell; have hf1 := hv1.frozen)
      exact ⟨hk2.from _, hb2, ⟨_, hv2, by rw [Hsn.out, Hbr.out]; exact hr2, trivial⟩, hB.trans hb2⟩
    · have hlen : (q ++ [(lo, hi')]).length = q.length + 1 := by simp
      have hbr0 : brow (q ++ [(lo, hi')]) = brow q ++ [.int .u8 (lo : Int), .int .u8 (hi' : Int)] := brow_snoc q lo hi'
      have hql : (brow q).length = q.length * 2 := brow_len q
      rw [hlen] at hrow hpl
      obtain ⟨g, cap, rfl⟩ := ownsRow_succ hrow
      have hch : W.cell? ⟨g, q.length * 2 + 1, none⟩ = some (.int .u8 (hi' : Int)) := by
        obtain ⟨_, off, he, hcc⟩ := Rd.own hrow (q.length * 2 + 1) (.int .u8 (hi' : Int)) (by rw [hbr0, List.getElem?_append_right (by omega), hql, Nat.add_sub_cancel_left]; rfl)
        simp only [Option.some.injEq, Addr.mk.injEq, and_true] at he
        obtain ⟨rfl, rfl⟩ := he
        simpa using hcc
      have hfz := hrow.frozenAt (q.length * 2 + 1)
      have hbq := (hbd (lo, hi') (by simp)).2
      have hh8 : hi' < 256 := hbq
      by_cases hhit : hi' + 1 = xv
      · have hqt : ((hi' : Int) == (xv : Int) - 1) = true := by simp; omega
        have hst := World.ownsRow.stored hrow (q.length * 2 + 1) (.int .u8 (xv : Int))
        have hset : (brow (q ++ [(lo, hi')])).set (q.length * 2 + 1) (.int .u8 (xv : Int)) = brow (q ++ [(lo, xv)]) := by
          rw [hbr0, brow_snoc, List.set_append_right _ _ (by omega), hql, Nat.add_sub_cancel_left]
          rfl
        rw [hset] at hst
        have hgB := (hrow.lt g rfl).1
        have hv2 := hv.kept hst.2 (hv.not_row (by decide) hrow)
        have hl2 : (q ++ [(lo, xv)]).length = q.length + 1 := by simp
        have hsh := step_hit q lo hi' xv hhit
        have Hrow := Lib.hid hst.1
        have Hv2 := Lib.hid hv2
        have Hsh := Lib.hid hsh
        have Hl2 := Lib.hid hl2
        have HB := Lib.hid hB
        clear hst hv2 hsh hl2 hset hbr0 hlen hrow hv hB hbd hhit
        gi_wp2
        have hr3 : (W.setCell ⟨g, q.length * 2 + 1, none⟩ (.int .u8 (xv : Int))).ownsRow w.heap.size 186 2 (.slice (some ⟨g, 0, none⟩) (q.length + 1) cap) (sps ((pre ++ [x]).map Fin.val)).length (brow (sps ((pre ++ [x]).map Fin.val))) := by rw [Hsn.out, Hsh.out, Hl2.out]; exact Hrow.out
        first | exact ⟨(KeepsOthers.setCell _ _ _).from _, (Below.refl w.heap.size W).setCell (p := ⟨g, q.length * 2 + 1, none⟩) hgB _, ⟨_, Hv2.out, hr3, trivial⟩, HB.out.setCell (p := ⟨g, q.length * 2 + 1, none⟩) hgB _⟩ | exact ⟨(KeepsOthers.setCell _ _ _).from _, (Below.refl w.heap.size W).setCell (p := ⟨g, q.length * 2 + 1, none⟩) hgB _, ⟨_, Hv2.out, hr3⟩, HB.out.setCell (p := ⟨g, q.length * 2 + 1, none⟩) hgB _⟩
      · have hqt : ((hi' : Int) == (xv : Int) - 1) = false := by simp; omega
        have hsh := step_miss q lo hi' xv hhit
        have hbr : brow ((q ++ [(lo, hi')]) ++ [(xv, xv)]) = brow (q ++ [(lo, hi')]) ++ [.int .u8 (xv : Int), .int .u8 (xv : Int)] := brow_snoc _ _ _
        have hl2 : ((q ++ [(lo, hi')]) ++ [(xv, xv)]).length = q.length + 1 + 1 := by simp
        have Hsh := Lib.hid hsh
        have Hbr := Lib.hid hbr
        have Hl2 := Lib.hid hl2
        clear hsh hbr hl2 hbr0 hlen hbd hhit
        gi_wp2_with (gi_at_builtin; refine wpListIn_append_own _ rfl _ _ 183 rfl w.heap.size 186 i0 (.agg #[.int .u8 0, .int .u8 0]) 2 2 Tryd.underlying183 hi hz0 hz1 hz2 rfl (by decide) _ _ _ rfl (hrow.alloc _) ⟨W.heap.size, 0, none⟩ 1 1 [.int .u8 (xv : Int), .int .u8 (xv : Int)] rfl rfl (cell_two_new _ _ _ _) (by simp [Value.oneCell']) (by unfold maxLen; omega) (by omega) (by have := hB.size; simp; omega) ?_; intro v' w1 hown' hgrow _; obtain ⟨g', cap', rfl⟩ := ownsRow_succ hown'; obtain ⟨hv1, hv2, hr2, hk2, hb2⟩ := hv.appended (by decide) hrow hB.size (by omega) hown' hgrow; have hc1 := hv1.cell; have hf1 := hv1.frozen)
        have hr3 : (w1.setCell ⟨w.heap.size + 1, 0, none⟩ (.slice (some ⟨g', 0, none⟩) (q.length + 1 + 1) cap')).ownsRow w.heap.size 186 2 (.slice (some ⟨g', 0, none⟩) (q.length + 1 + 1) cap') (sps ((pre ++ [x]).map Fin.val)).length (brow (sps ((pre ++ [x]).map Fin.val))) := by rw [Hsn.out, Hsh.out, Hl2.out, Hbr.out]; exact hr2
        first | exact ⟨hk2.from _, hb2, ⟨_, hv2, hr3, trivial⟩, hB.trans hb2⟩ | exact ⟨hk2.from _, hb2, ⟨_, hv2, hr3⟩, hB.trans hb2⟩
  case done =>
    rintro D ys W hD hys ⟨⟨v, hv, hrow, _⟩, hB⟩ hK
    have hc := hv.cell
    gi_wp2
    refine ⟨by simp, .inl ⟨_, _, rfl, run_takeDeferred hK, ?_⟩⟩
    exact ⟨_, results_tmp rfl _ _ _, v, ys, hys, rfl, ownsRow_putObj hrow _ hK rfl, hB.trans (belowK_b (w := w) (Nat.le_refl _) W D _ _ (by omega) hK rfl rfl)⟩
  case stop =>
    rintro D c pre W _ _ h _
    exact h.elim
end St
end Go.Proofs.YteekonojmpihlaaDoor
