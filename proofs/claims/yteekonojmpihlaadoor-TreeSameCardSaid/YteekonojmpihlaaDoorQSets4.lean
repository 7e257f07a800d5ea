import Derived.RangeFuncNested
import Derived.RangeFuncBound
import Derived.RangeFuncCalls
import Derived.RangeFuncLeaves
import Derived.RangeFuncBox
import Derived.Shelf.Abstract
import Derived.Shelf.RegionOpen
import Derived.OwnWalkIn
import Derived.TacticsInMore
import Derived.LoopNIn
import Derived.LoopIn
import Derived.Maps.AppendAt
import Derived.Test.YteekonojmpihlaaDoorQSetsSp
import Derived.Test.YteekonojmpihlaaDoorQBits
import Derived.Laws.IdiomArrays
import Derived.OpenShut
import Derived.ChangeKeysEq
/- The iterator of sets: (Set).all. Condition: the table of TrailingZeros64 reads as laid. -/
namespace Go.Proofs.YteekonojmpihlaaDoor
open Go Go.RowKit Go.Shelf Kt
namespace St
open Mk
attribute [local go_sem] Oper.semAt_some
def vals (ws : List Nat) : List Value := ws.map fun (x : Nat) => .int .u64 (x : Int)
/-- A set's value. -/
def sv (ws : List Nat) : Value := .agg (vals ws).toArray
set_option maxRecDepth 100000 in
theorem index_run {ws : List Nat} (h : ws.length = 4) (i : Nat) (hi : i < 4) (w : World) : (Instr.index 34 (sv ws) (.int .i64 (i : Int))).run Tryd.prog w = .ok (.int .u64 (ws.getD i 0 : Nat)) w := by
  obtain ⟨a, b, c, d, rfl⟩ := four h
  have hi4 : i = 0 ∨ i = 1 ∨ i = 2 ∨ i = 3 := by omega
  rcases hi4 with rfl | rfl | rfl | rfl <;> rfl
/-- The inner loop. -/
def InR (J : List Nat → World → Prop) (ws : List Nat) (k xk n₀ : Nat) (W : World) (v : Value) (wr : World) : Prop := ∃ t v' : Nat, t ≤ 64 ∧ v = .int .u64 (v' : Int) ∧ xk / 2 ^ t * 2 ^ t = v' ∧ J (El ws k t) wr ∧ Below n₀ W wr
set_option maxRecDepth 100000 in
set_option maxHeartbeats 2000000 in
theorem all1_in (n : Nat) (hn : 1 ≤ n) (l Bn n₀ : Nat) (ws : List Nat) (hl : ws.length = 4) (hlt : ∀ x ∈ ws, x < 18446744073709551616) (J Jx : List Nat → World → Prop)
    (hY : ∀ pre x W, J pre W → pre.length < 256 → x < 256 → YieldAt Fence.wide (n - 1) Tryd.prog l #[.int .i64 ((x : Nat) : Int)] W fun e W' =>
      (e = .returned (.bool true) ∧ J (pre ++ [x]) W' ∧ Below n₀ W W') ∨ (e = .returned (.bool false) ∧ Jx (pre ++ [x]) W'))
    (W : World) (hBn : W.heap[Bn]? = some (.cells (vals ws).toArray 34 (0, 0))) (hn₀ : ∀ W', Below n₀ W W' → Bt.Tab W') (h0 : J [] W) :
    CallsIn Fence.wide n Tryd.prog 149 #[.func (.yield l) #[] #[], .pointer (some ⟨Bn, 0, none⟩)] W fun e W' => (∃ v, e = .returned v) ∧
      ((∃ ys, ys = all ws ∧ J ys W') ∨ (∃ pre, pre <+: all ws ∧ Jx pre W')) := by
  obtain ⟨x0, x1, x2, x3, hws⟩ := four hl
  have c0 : W.cell? ⟨Bn, 0, none⟩ = some (.int .u64 (x0 : Int)) := by rw [cell_block hBn, hws]; rfl
  have c1 : W.cell? ⟨Bn, 1, none⟩ = some (.int .u64 (x1 : Int)) := by rw [cell_block hBn, hws]; rfl
  have c2 : W.cell? ⟨Bn, 2, none⟩ = some (.int .u64 (x2 : Int)) := by rw [cell_block hBn, hws]; rfl
  have c3 : W.cell? ⟨Bn, 3, none⟩ = some (.int .u64 (x3 : Int)) := by rw [cell_block hBn, hws]; rfl
  refine callsIn_of_wp Tryd.func149 rfl trivial ?_ rfl
  simp only [Tryd.ntmps149, List.size_toArray, List.length_cons, List.length_nil, Nat.reduceAdd, Nat.reduceSub, Array.replicate_succ, Array.replicate_zero, List.push_toArray, List.append_toArray, List.nil_append, List.cons_append]
  gi_wp2
  have hidx := fun (i : Nat) (hi : i < 4) (w : World) => index_run hl i hi w
  have hsv : sv ws = .agg #[.int .u64 (x0 : Int), .int .u64 (x1 : Int), .int .u64 (x2 : Int), .int .u64 (x3 : Int)] := by rw [hws]; rfl
  have hword : ∀ i, ws.getD i 0 < 18446744073709551616 := fun i => by
    rw [List.getD_eq_getElem?_getD]
    cases hg : ws[i]? with
    | none => simp
    | some y => exact hlt y (List.mem_of_getElem? hg)
  have Hid := Lib.hid hidx
  have Hsv := Lib.hid hsv
  have Hw := Lib.hid hword
  have HY := Lib.hid hY
  have HT := Lib.hid hn₀
  have Hall := Lib.hid (el_all hl)
  have H0 := Lib.hid h0
  have Hl := Lib.hid hl
  clear hidx hsv hword hY hn₀ h0 hBn hlt c0 c1 c2 c3 hws hl
  gi_loopw [3, 4, 6] (fun _ _ i wr => ∃ k : Nat, k ≤ 4 ∧ i = .int .i64 (k : Int) ∧ J (El ws k 0) wr ∧ Below n₀ W wr) (fun _ _ i _ => 4 - (intOf i).toNat)
  case atStart => exact ⟨0, by omega, rfl, by rw [el_zero]; exact H0.out, Below.refl _ _⟩
  case round =>
    obtain ⟨k, hk, rfl, hJ, hB⟩ := hrel
    by_cases hk4 : k < 4
    · have hd4 : decide ((k : Int) < 4) = true := by simp; omega
      have hix := fun w => Hid.out k hk4 w
      rw [Hsv.out] at hix
      obtain ⟨xk, hxk⟩ : ∃ xk, ws.getD k 0 = xk := ⟨_, rfl⟩
      rw [hxk] at hix
      have Hxk := Lib.hid hxk
      have HJ := Lib.hid hJ
      have HB := Lib.hid hB
      clear hxk hJ hB
      obtain ⟨wo, rfl⟩ : ∃ wo : World, wo = wr := ⟨_, rfl⟩
      gi_wp2
      gi_loopw [4] (fun v wr => InR J ws k xk n₀ W v wr) (fun v _ => (intOf v).toNat)
      case atStart => exact ⟨0, xk, by omega, rfl, by simp, HJ.out, HB.out⟩
      case round =>
        obtain ⟨t, v, ht, rfl, hv, hJ, hB⟩ := hrel
        have hv64 : v < 18446744073709551616 := by
          have h1 : v ≤ xk := by rw [← hv]; exact Nat.div_mul_le_self xk (2 ^ t)
          have := Hw.out k
          rw [Hxk.out] at this
          omega
        by_cases h0 : v = 0
        · subst h0
          have he := el_done (ws := ws) (i := k) ht (by rw [Hxk.out]; exact hv)
          rw [he, el_next_word] at hJ
          have HJ2 := Lib.hid hJ
          have HB2 := Lib.hid hB
          clear hJ hB hv he
          gi_wp2
          go_roundw
          case rel => exact ⟨k + 1, by omega, by go_num, HJ2.out, HB2.out⟩
          case measure => simp [intOf]; omega
        · obtain ⟨hc, hel, hnx⟩ := el_step (ws := ws) (i := k) (t := t) (v := v) (by rw [Hxk.out]; exact hv) h0 hv64
          rw [Hxk.out] at hnx
          have hal := and_lt h0
          have hlen : (El ws k t).length < 256 := by
            have h1 : (El ws k t).length ≤ 64 * k + t := by
              unfold El
              refine Nat.le_trans (List.length_filter_le _ _) ?_
              rw [List.length_range]
              exact Nat.le_refl _
            have h2 := (clear_low hv h0 hv64).2.1
            omega
          obtain ⟨fn, tmps, assign, body, hy, hR⟩ := HY.out (El ws k t) (64 * k + Lib.ctz 64 v) wr hJ hlen (by omega)
          have hcast : ((64 * k + Lib.ctz 64 v : Nat) : Int) = 64 * (k : Int) + (Lib.ctz 64 v : Int) := by omega
          rw [hcast] at hy
          have hC := Bt.ctz_c v hv64 h0 wr (HT.out _ hB)
          have hand := Bt.and64 (v : Int) ((v : Int) - 1) v (v - 1) _ rfl (by omega) hv64 (by omega) rfl
          have hv0 : ((v : Int) == 0) = false := by simp; omega
          have HC := Lib.hid hC
          have HB2 := Lib.hid hB
          have Hel := Lib.hid hel
          have Hnx := Lib.hid hnx
          rw [← hel] at hR
          clear hJ hB hel hnx hv hC hlen hcast
          generalize v &&& (v - 1) = u at *
          generalize Lib.ctz 64 v = c at *
          gi_wp2_with (refine ⟨trivial, ?_⟩; gi_at_call 150; refine (callsIn_wide.2 HC.out).mono ?_; rintro e w' ⟨rfl, rfl⟩)
          refine hR.mono ?_
          rintro e W3 (⟨rfl, hJ3, hk3⟩ | ⟨rfl, hJx3⟩)
          · have HJ3 := Lib.hid hJ3
            have HB3 := Lib.hid (HB2.out.trans hk3)
            clear hJ3 hk3
            gi_wp2
            go_roundw
            case rel => first | exact ⟨c + 1, u, by omega, rfl, Hnx.out, HJ3.out, HB3.out⟩ | ((repeat apply Exists.intro); refine ⟨?r, ?f⟩; (case f => (and_intros <;> rfl)); exact ⟨c + 1, u, by omega, rfl, Hnx.out, HJ3.out, HB3.out⟩)
            case measure => simp [intOf]; omega
          · have hp := el_prefix Hl.out k (c + 1) (by omega)
            rw [Hel.out] at hJx3
            have HP := Lib.hid hp
            have HJx := Lib.hid hJx3
            clear hp hJx3
            gi_wp2
            ((try simp only [Exit.inBlock, Exit.then]); refine bodyPost_ret (results_none rfl _ _ _) rfl ?_)
            exact ⟨⟨_, rfl⟩, .inr ⟨_, HP.out, by rw [Hel.out]; exact HJx.out⟩⟩
    · have hk4 : k = 4 := by omega
      subst hk4
      rw [Hall.out] at hJ
      gi_wp2
      go_end0
      exact ⟨⟨_, rfl⟩, .inl ⟨_, rfl, hJ⟩⟩
set_option maxRecDepth 100000 in
set_option maxHeartbeats 1000000 in
/-- s.all(): the receiver is boxed; the function value captures the box. -/
theorem all_in (n : Nat) (ws : List Nat) (hl : ws.length = 4) (w : World) :
    CallsIn Fence.wide n Tryd.prog 142 #[sv ws] w fun e w' => e = .returned (.func (.func 149) #[] #[.pointer (some ⟨w.heap.size, 0, none⟩)]) ∧ w' = w.alloc (.cells (vals ws).toArray 34) := by
  obtain ⟨x0, x1, x2, x3, rfl⟩ := four hl
  refine callsIn_of_wp Tryd.func142 rfl trivial ?_ rfl
  simp only [Tryd.ntmps142, sv, vals, List.map_cons, List.map_nil, List.size_toArray, List.length_cons, List.length_nil, Nat.reduceAdd, Nat.reduceSub, Array.replicate_succ, Array.replicate_zero, List.push_toArray, List.append_toArray, List.nil_append, List.cons_append]
  gi_wp2
  go_ret
  exact ⟨rfl, rfl⟩
def enc (x : Fin 256) : Array Value := #[.int .i64 ((x.val : Nat) : Int)]
theorem all_stops (n : Nat) (hn : 1 ≤ n) (Bn n₀ : Nat) (ws : List Nat) (hl : ws.length = 4) (hlt : ∀ x ∈ ws, x < 18446744073709551616) (w : World) (hBn : w.heap[Bn]? = some (.cells (vals ws).toArray 34 (0, 0))) (hn₀ : n₀ ≤ w.heap.size)
    (hT : ∀ W', Below n₀ w W' → Bt.Tab W') :
    SeqStopsK Fence.wide n Tryd.prog 149 #[.pointer (some ⟨Bn, 0, none⟩)] enc (Below n₀) (fun ys => ys.map Fin.val = all ws) (fun pre => pre.map Fin.val <+: all ws) 256 w := by
  intro l J Jx W hW _ _ hY h0
  refine (all1_in n hn l Bn n₀ ws hl hlt (fun pre W => ∃ q : List (Fin 256), q.map Fin.val = pre ∧ J q W) (fun pre W => ∃ q : List (Fin 256), q.map Fin.val = pre ∧ Jx q W) ?_ W ((hW.block Bn (block_lt hBn)).trans hBn) (fun W' h => hT W' ((hW.mono hn₀).trans h)) ⟨[], rfl, h0⟩).mono ?_
  · rintro pre x W1 ⟨q, rfl, hJ⟩ hlen hx
    rw [List.length_map] at hlen
    refine (hY q ⟨x, hx⟩ W1 hJ hlen).mono ?_
    rintro e W' (⟨h1, h2, h3⟩ | ⟨h1, h2⟩)
    · exact .inl ⟨h1, ⟨_, by simp, h2⟩, h3⟩
    · exact .inr ⟨h1, ⟨_, by simp, h2⟩⟩
  · rintro e W' ⟨h1, ⟨ys, rfl, q, hq, hJ⟩ | ⟨pre, hp, q, hq, hJ⟩⟩
    · exact ⟨h1, .inl ⟨q, hq, hJ⟩⟩
    · subst hq; exact ⟨h1, .inr ⟨q, hp, hJ⟩⟩
end St
end Go.Proofs.YteekonojmpihlaaDoor

/- A set that came in. -/
namespace Go.Proofs.YteekonojmpihlaaDoor
open Go Go.RowKit Kt
namespace St
open Mk
theorem wf_u64 {n : Int} (h : (Lit.int .u64 n).wf = true) : ∃ c : Nat, n = (c : Int) ∧ c < 18446744073709551616 := by
  have h1 : 0 ≤ n ∧ n ≤ 18446744073709551615 := bounds_u64 h
  exact ⟨n.toNat, by omega, by omega⟩
end St
end Go.Proofs.YteekonojmpihlaaDoor

/- The walks of package sets: Not, Or, And, Minus, All, Has, Len, Empty. -/
namespace Go.Proofs.YteekonojmpihlaaDoor
open Go Go.RowKit Kt
namespace Kt
theorem heap_alloc2_old (w : World) (A B : Obj) : ((w.alloc A).alloc B).heap[w.heap.size]? = some A := by
  rw [heap_alloc_old _ _ _ (by rw [World.size_alloc]; omega)]
  exact heap_alloc_new w A
end Kt
namespace St
open Mk
theorem xor64 (x : Nat) (hx : x < 18446744073709551616) : bits .xor .u64 18446744073709551615 (x : Int) = (nt x : Nat) := bits_xor_u64_nat 18446744073709551615 x (by decide) hx
set_option maxHeartbeats 1000000 in
set_option maxRecDepth 100000 in
theorem not_c (ws : List Nat) (f : Nat → Bool) (hw : IsSet ws f) (w : World) : Calls Tryd.prog 128 #[sv ws] w fun e w' => ∃ rs, e = .returned (sv rs) ∧ IsSet rs (fun c => !f c) ∧ Below w.heap.size w w' := by
  obtain ⟨x0, x1, x2, x3, rfl⟩ := four hw.len
  have h0 := hw.lt x0 (by simp)
  have h1 := hw.lt x1 (by simp)
  have h2 := hw.lt x2 (by simp)
  have h3 := hw.lt x3 (by simp)
  have n0 := xor64 x0 h0
  have n1 := xor64 x1 h1
  have n2 := xor64 x2 h2
  have n3 := xor64 x3 h3
  have hres : IsSet [nt x0, nt x1, nt x2, nt x3] (fun c => !f c) := by
    refine isSet_of (by intro x hx; simp at hx; rcases hx with rfl | rfl | rfl | rfl <;> exact nt_lt (by assumption)) fun i hi t ht => ?_
    have := hw.at' (64 * i + t) (by omega)
    rw [has_word _ _ _ ht] at this
    rw [← this]
    have hi4 : i = 0 ∨ i = 1 ∨ i = 2 ∨ i = 3 := by omega
    rcases hi4 with rfl | rfl | rfl | rfl <;> simp <;> exact nt_bit _ _ ht
  have HR := Lib.hid hres
  have HB := Lib.hid (Below.refl w.heap.size w)
  have hsg : IntKind.u64.signed = false := rfl
  have hmax : IntKind.u64.max = 18446744073709551615 := rfl
  clear hres hw
  simp only [sv, vals, List.map_cons, List.map_nil]
  go_enter Tryd.func128, Tryd.ntmps128
  go_wp2
  refine wp_loop_rounds 5 ?_
  rw [rounds_succ]
  go_wp2
  rw [rounds_succ]
  go_wp2
  rw [rounds_succ]
  go_wp2
  rw [rounds_succ]
  go_wp2
  rw [rounds_succ]
  go_wp2
  ((try simp only [Exit.inBlock, Exit.then]); refine bodyPost_ret (results_cell_row rfl _ _ (w.heap.size + 1) 34 ?cs1 (0, 0) _ rfl ?hg1 Tryd.underlying34 rfl ?hi1) rfl ?_; (case hg1 => first | exact heap_alloc2_new _ _ _ | exact Kt.heap_alloc3_new _ _ _ _ | exact Kt.heap_alloc2_old _ _ _); (case hi1 => kernel_rfl))
  exact ⟨_, rfl, HR.out, ((HB.out.alloc (Nat.le_refl _) _).alloc (by simp) _)⟩

end St
end Go.Proofs.YteekonojmpihlaaDoor
