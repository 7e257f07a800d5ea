import Derived.Test.YtoeeddfinmfnoaaDoorQTreePure
import Derived.Test.YtoeeddfinmfnoaaDoorQRangeA
import Derived.Test.YtoeeddfinmfnoaaDoorRows
import Derived.RangeFuncLeaves
import Derived.Shelf.Abstract
import Derived.Shelf.RegionOpen
import Derived.WalkKit
import Derived.OwnWalkIn
import Derived.TacticsInMore
import Derived.LoopNIn
import Derived.LoopIn
/- (*tree.walker).walk and tree.all: the walk comes to the nodes in their order, to 601 at most. -/
namespace Go.Proofs.YtoeeddfinmfnoaaDoor
namespace Kt
end Kt
open Go Go.RowKit Go.Shelf Kt
namespace Tr
attribute [local go_sem] Oper.semAt_some
/-- The walker's block: how many nodes it may still come to; yield. -/
def wk (l left : Nat) : Obj := Obj.cells #[.int .i64 (left : Int), .func (.yield l) #[] #[]] 109 (0, 0)
def enc (x : Nd × Nat) : Array Value := #[nv x.1, .int .i64 (x.2 : Int)]
/-- What the walk asks of its rounds: F is all that it would come to; p is the walker's block; T, from B0 on, are the iterator's own blocks. -/
structure Wh (l p n₀ B0 : Nat) (F : List (Nd × Nat)) (J Jx : List Nat → List (Nd × Nat) → World → Prop) : Prop where
  hJ : ∀ T T' pre A A', J T pre A → Mod T A A' → (∀ b ∈ T', b ∈ T ∨ A.heap.size ≤ b) → J T' pre A'
  hJx : ∀ T T' pre A A', Jx T pre A → Mod T A A' → (∀ b ∈ T', b ∈ T ∨ A.heap.size ≤ b) → Jx T' pre A'
  hY : ∀ m T pre x A, J T pre A → (∀ t ∈ T, B0 ≤ t ∧ t < A.heap.size) → pre ++ [x] <+: F.take 601 → YieldAt Fence.wide m Tryd.prog l (enc x) A fun e A' =>
    (e = .returned (.bool true) ∧ J T (pre ++ [x]) A' ∧ A.heap.size ≤ A'.heap.size ∧ (∀ t ∈ T, A'.heap[t]? = A.heap[t]?) ∧ Below n₀ A A') ∨ (e = .returned (.bool false) ∧ Jx T (pre ++ [x]) A')
  hB : n₀ ≤ B0
/-- What a walk answers. -/
def WkP (l p n₀ : Nat) (F : List (Nd × Nat)) (J Jx : List Nat → List (Nd × Nat) → World → Prop) (T : List Nat) (pre q : List (Nd × Nat)) (A : World) (e : Ending) (A' : World) : Prop :=
  (e = .returned (.bool true) ∧ pre.length + q.length ≤ 601 ∧ J T (pre ++ q) A' ∧ A'.heap[p]? = some (wk l (601 - (pre.length + q.length))) ∧ A.heap.size ≤ A'.heap.size ∧ (∀ t ∈ T, t ≠ p → A'.heap[t]? = A.heap[t]?) ∧ Below n₀ A A') ∨
  (e = .returned (.bool false) ∧ J T (F.take 601) A') ∨ (e = .returned (.bool false) ∧ ∃ r, r <+: F.take 601 ∧ Jx T r A')
def WalkSt (l p n₀ B0 : Nat) (F : List (Nd × Nat)) (J Jx : List Nat → List (Nd × Nat) → World → Prop) (n : Nd) : Prop :=
  ∀ (m lv : Nat) (T : List Nat) (pre : List (Nd × Nat)) (A : World), p ∈ T → (∀ t ∈ T, B0 ≤ t ∧ t < A.heap.size) → Is n₀ A n → J T pre A → A.heap[p]? = some (wk l (601 - pre.length)) → pre.length ≤ 601 → pre ++ full lv n <+: F → lv ≤ 25 →
    CallsIn Fence.wide m Tryd.prog 82 #[.pointer (some ⟨p, 0, none⟩), nv n, .int .i64 (lv : Int)] A (WkP l p n₀ F J Jx T pre (full lv n) A)
theorem four' {l : List Nat} (h : l.length = 4) : ∃ a b c d, l = [a, b, c, d] := by
  match l, h with
  | [a, b, c, d], _ => exact ⟨a, b, c, d, rfl⟩
variable {l p n₀ B0 : Nat} {F : List (Nd × Nat)} {J Jx : List Nat → List (Nd × Nat) → World → Prop}
theorem sub_self (T : List Nat) (A : World) : ∀ b ∈ T, b ∈ T ∨ A.heap.size ≤ b := fun _ h => .inl h
set_option maxRecDepth 100000 in
set_option maxHeartbeats 4000000 in
/-- Nothing is left: it has ended. -/
theorem walk_zero (H : Wh l p n₀ B0 F J Jx) (n : Nd) (hs : n.set.length = 4) (m lv : Nat) (T : List Nat) (pre : List (Nd × Nat)) (A : World) (hJ : J T pre A) (hw : A.heap[p]? = some (wk l 0)) (hl : pre.length = 601) (hF : pre <+: F) (q : List (Nd × Nat)) :
    CallsIn Fence.wide m Tryd.prog 82 #[.pointer (some ⟨p, 0, none⟩), nv n, .int .i64 (lv : Int)] A (WkP l p n₀ F J Jx T pre q A) := by
  have hpre : F.take 601 = pre := by
    obtain ⟨r, rfl⟩ := hF
    rw [List.take_append_of_le_length (by omega), List.take_of_length_le (by omega)]
  obtain ⟨x0, x1, x2, x3, hs⟩ := four' hs
  obtain ⟨k, s, mn, mx, t, a, c, ks⟩ := n
  simp only [Nd.set] at hs
  subst hs
  have hfin : ∀ A', Below A.heap.size A A' → WkP l p n₀ F J Jx T pre q A (.returned (.bool false)) A' := fun A' hb => .inr (.inl ⟨rfl, by rw [hpre]; exact H.hJ _ _ _ _ _ hJ (Mod.of_below hb _) (sub_self _ _)⟩)
  have HF := Lib.hid hfin
  have hlt := block_lt hw
  have hb := block_alloc (x := Obj.cells #[.int .i64 k, .int .u64 (x0 : Int), .int .u64 (x1 : Int), .int .u64 (x2 : Int), .int .u64 (x3 : Int), .slice a ks.length c, .int .i64 mn, .int .i64 mx, .string (Str t)] 27) hw
  have c0 := cell_block (i := 0) (show _ = some (Obj.cells _ _ _) from hb)
  have c1 := cell_block (i := 1) (show _ = some (Obj.cells _ _ _) from hb)
  simp only [List.getElem?_toArray, List.getElem?_cons_zero, List.getElem?_cons_succ] at c0 c1
  clear hb hw hJ hpre hF hl hfin H
  refine callsIn_wide.2 ?_
  show Calls Tryd.prog 82 #[.pointer (some ⟨p, 0, none⟩), .agg #[.int .i64 k, .int .u64 (x0 : Int), .int .u64 (x1 : Int), .int .u64 (x2 : Int), .int .u64 (x3 : Int), .slice a ks.length c, .int .i64 mn, .int .i64 mx, .string (Str t)], .int .i64 (lv : Int)] A _
  generalize ks.length = L at *
  go_enter Tryd.func82, Tryd.ntmps82
  go_wp2_with fail
  go_quiet (fail)
  go_wp2
  go_ret
  exact HF.out _ (below_drewN ((Below.refl _ _).alloc (Nat.le_refl _) _) _)
theorem fulls_append (lv : Nat) : ∀ (r s : List Nd), fulls lv (r ++ s) = fulls lv r ++ fulls lv s
  | [], s => rfl
  | n :: r, s => by simp [fulls, fulls_append lv r s]
theorem fulls_take (lv : Nat) (ks : List Nd) (j : Nat) (h : j < ks.length) : fulls lv (ks.take (j + 1)) = fulls lv (ks.take j) ++ full lv ks[j] := by
  rw [List.take_succ_eq_append_getElem h, fulls_append]
  simp [fulls]
/-- Where the loop over the kids stands. -/
def WkR (l p n₀ : Nat) (J : List Nat → List (Nd × Nat) → World → Prop) (T : List Nat) (pre : List (Nd × Nat)) (n : Nd) (lv : Nat) (W1 : World) (i : Value) (W : World) : Prop :=
  ∃ j : Nat, j ≤ n.kids.length ∧ i = .int .i64 (j : Int) ∧ J T (pre ++ (n, lv) :: fulls (lv + 1) (n.kids.take j)) W ∧ pre.length + 1 + (fulls (lv + 1) (n.kids.take j)).length ≤ 601 ∧
    W.heap[p]? = some (wk l (601 - (pre.length + 1 + (fulls (lv + 1) (n.kids.take j)).length))) ∧ W1.heap.size ≤ W.heap.size ∧ (∀ t ∈ T, t ≠ p → W.heap[t]? = W1.heap[t]?) ∧ Below n₀ W1 W
set_option maxRecDepth 100000 in
set_option maxHeartbeats 8000000 in
/-- One node, its kids' walks at hand. -/
theorem walk_step (H : Wh l p n₀ B0 F J Jx) (k : Int) (x0 x1 x2 x3 : Nat) (mn mx : Int) (t : List UInt8) (a : Option Addr) (c : Nat) (ks : List Nd) (IH : ∀ n ∈ ks, WalkSt l p n₀ B0 F J Jx n)
    (m lv : Nat) (T : List Nat) (pre : List (Nd × Nat)) (A : World) (hpT : p ∈ T) (hT : ∀ t ∈ T, B0 ≤ t ∧ t < A.heap.size) (hIs : Is n₀ A (.mk k [x0, x1, x2, x3] mn mx t a c ks)) (hJ : J T pre A) (left : Nat) (hleft : 601 - pre.length = left + 1) (hw : A.heap[p]? = some (wk l (left + 1))) (hF : pre ++ full lv (.mk k [x0, x1, x2, x3] mn mx t a c ks) <+: F) (hlv : lv ≤ 25) :
    CallsIn Fence.wide m Tryd.prog 82 #[.pointer (some ⟨p, 0, none⟩), nv (.mk k [x0, x1, x2, x3] mn mx t a c ks), .int .i64 (lv : Int)] A (WkP l p n₀ F J Jx T pre (full lv (.mk k [x0, x1, x2, x3] mn mx t a c ks)) A) := by
  obtain ⟨n, hn⟩ : ∃ n, Nd.mk k [x0, x1, x2, x3] mn mx t a c ks = n := ⟨_, rfl⟩
  have hnv : nv n = .agg #[.int .i64 k, .int .u64 (x0 : Int), .int .u64 (x1 : Int), .int .u64 (x2 : Int), .int .u64 (x3 : Int), .slice a ks.length c, .int .i64 mn, .int .i64 mx, .string (Str t)] := by rw [← hn]; rfl
  have hks : n.kids = ks := by rw [← hn]; rfl
  have hlt := block_lt hw
  have hx : pre ++ [(n, lv)] <+: F.take 601 := by
    rw [hn, full_eq] at hF
    have h1 : pre ++ [(n, lv)] <+: F := List.IsPrefix.trans ⟨if 24 < lv then [] else fulls (lv + 1) n.kids, by simp⟩ hF
    obtain ⟨r, rfl⟩ := h1
    have : (pre ++ [(n, lv)]).length ≤ 601 := by simp; omega
    exact ⟨r.take (601 - (pre ++ [(n, lv)]).length), by rw [List.take_append, List.take_of_length_le this]⟩
  obtain ⟨W1, hW1⟩ : ∃ W1, (A.alloc (.cells #[.int .i64 k, .int .u64 (x0 : Int), .int .u64 (x1 : Int), .int .u64 (x2 : Int), .int .u64 (x3 : Int), .slice a ks.length c, .int .i64 mn, .int .i64 mx, .string (Str t)] 27)) = W1 := ⟨_, rfl⟩
  have b1 : Below A.heap.size A W1 := by rw [← hW1]; exact (Below.refl _ _).alloc (Nat.le_refl _) _
  have hz1 : W1.heap.size = A.heap.size + 1 := by rw [← hW1]; simp
  have w1 : W1.heap[p]? = some (wk l (left + 1)) := (b1.block _ hlt).trans hw
  have e1 : W1.heap[A.heap.size]? = some (Obj.cells #[.int .i64 k, .int .u64 (x0 : Int), .int .u64 (x1 : Int), .int .u64 (x2 : Int), .int .u64 (x3 : Int), .slice a ks.length c, .int .i64 mn, .int .i64 mx, .string (Str t)] 27 (0, 0)) := by rw [← hW1]; exact heap_alloc_new A _
  have hAB : n₀ ≤ A.heap.size := by have := hT p hpT; have := H.hB; omega
  obtain ⟨T1, hT1⟩ : ∃ T1, A.heap.size :: T = T1 := ⟨_, rfl⟩
  have hT1b : ∀ t ∈ T1, B0 ≤ t ∧ t < W1.heap.size := by
    intro t ht
    rw [← hT1] at ht
    rcases List.mem_cons.1 ht with rfl | ht
    · have := hT p hpT; omega
    · have := hT t ht; omega
  have hpT1 : p ∈ T1 := by rw [← hT1]; simp [hpT]
  have hbT1 : A.heap.size ∈ T1 := by rw [← hT1]; simp
  have hJ1 : J T1 pre W1.drew := H.hJ T T1 pre A W1.drew hJ ((Mod.of_below b1 T).drew) (by
    intro b hb
    rw [← hT1] at hb
    rcases List.mem_cons.1 hb with rfl | hb
    · exact .inr (Nat.le_refl _)
    · exact .inl hb)
  obtain ⟨fn, tmps, assign, body, hy, hR⟩ := H.hY (m - 1) T1 pre (n, lv) W1.drew hJ1 hT1b hx
  have hR' : RoundIn Fence.wide (m - 1) Tryd.prog l fn tmps assign body W1.drew fun e A' => ∃ bb, e = .returned (.bool bb) ∧ (bb = true → J T1 (pre ++ [(n, lv)]) A' ∧ W1.heap.size ≤ A'.heap.size ∧ (∀ t ∈ T1, A'.heap[t]? = W1.heap[t]?) ∧ Below n₀ W1 A') ∧ (bb = false → Jx T1 (pre ++ [(n, lv)]) A') :=
    hR.mono fun e A' h => by
      rcases h with ⟨h1, h2, h3, h4, h5⟩ | ⟨h1, h2⟩
      · exact ⟨true, h1, fun _ => ⟨h2, h3, h4, (Below.refl _ _).drew.trans h5⟩, fun h => by cases h⟩
      · exact ⟨false, h1, fun h => (by cases h), fun _ => h2⟩
  have c0 := cell_block (i := 0) (show _ = some (Obj.cells _ _ _) from w1)
  have c1 := cell_block (i := 1) (show _ = some (Obj.cells _ _ _) from w1)
  simp only [List.getElem?_toArray, List.getElem?_cons_zero, List.getElem?_cons_succ] at c0 c1
  have HW1 := Lib.hid hW1
  have HY := Lib.hid hR'
  have hmx : Tryd.prog.follows .mixedOrders = true := by kernel_rfl
  rw [hn]
  rw [hnv]
  unfold enc at hy
  rw [hnv] at hy
  -- what is answered where a round has said no
  have hno : ∀ A', Jx T1 (pre ++ [(n, lv)]) A' → WkP l p n₀ F J Jx T pre (full lv n) A (.returned (.bool false)) A' := fun A' h =>
    .inr (.inr ⟨rfl, _, hx, H.hJx T1 T _ A' A' h (Mod.refl _ _) (fun b hb => .inl (by rw [← hT1]; simp [hb]))⟩)
  have HNo := Lib.hid hno
  have HL := Lib.hid hleft
  have HIs := Lib.hid hIs
  have HB1 := Lib.hid b1
  have HP1 := Lib.hid w1
  have E1 := Lib.hid e1
  have HFF := Lib.hid hF
  have HH := Lib.hid H
  have HIH := Lib.hid IH
  have HT1 := Lib.hid hT1
  have HTA := Lib.hid (fun t ht => (hT t ht).2)
  have HT1b := Lib.hid hT1b
  have HpT := Lib.hid (And.intro hpT1 hbT1)
  have HKs := Lib.hid hks
  have HN := Lib.hid hn
  have HAB := Lib.hid (And.intro hAB hz1)
  have hlen : ((left + 1 : Nat) : Int) = (left : Int) + 1 := by omega
  rw [hlen] at c0
  have hl600 : left ≤ 600 := by omega
  have hl0 : (((left : Int) + 1) == 0) = false := by simp; omega
  obtain ⟨nl, hnl⟩ : ∃ nl, ks.length = nl := ⟨_, rfl⟩
  rw [hnl] at HW1 E1 hy
  rw [hnl]
  have HNL := Lib.hid hnl
  have d0 := cell_block (show _ = some (Obj.cells _ _ _) from E1.out)
  have z0 := d0 0
  have z1 := d0 1
  have z2 := d0 2
  have z3 := d0 3
  have z4 := d0 4
  have z5 := d0 5
  have z6 := d0 6
  have z7 := d0 7
  have z8 := d0 8
  simp only [List.getElem?_toArray, List.getElem?_cons_zero, List.getElem?_cons_succ] at z0 z1 z2 z3 z4 z5 z6 z7 z8
  clear hR' d0 hn hleft hIs b1 w1 e1 hF H IH hlen hW1 hw hJ hJ1 hR hx hnv hnl hno hT1 hT1b hpT1 hbT1 hks hT hpT hAB hz1
  refine callsIn_of_wp Tryd.func82 rfl trivial ?_ rfl
  simp only [Tryd.ntmps82, List.size_toArray, List.length_cons, List.length_nil, Nat.reduceAdd, Nat.reduceSub, Array.replicate_succ, Array.replicate_zero, List.push_toArray, List.append_toArray, List.nil_append, List.cons_append]
  gi_wp2_with fail
  rw [HW1.out]
  (first
    | (gi_region_with_o (refine ⟨fun h => (by cases h), ?_⟩; refine HY.out.mono ?_; rintro e W3 ⟨bb, rfl, hT3, hF3⟩))
    | fail)
  all_goals
    clear c0 c1 hy z0 z1 z2 z3 z4 z5 z6 z7 z8
    cases bb with
    | false =>
      have HJX := Lib.hid (hF3 rfl)
      clear hT3 hF3
      gi_wp2
      go_ret
      exact HNo.out _ HJX.out
    | true =>
      obtain ⟨hJ3, hs3, hT3, hb3⟩ := hT3 rfl
      have hp3 := (hT3 _ HpT.out.1).trans HP1.out
      have he3 := (hT3 _ HpT.out.2).trans E1.out
      have hne : A.heap.size ≠ p := by omega
      obtain ⟨W4, hW4⟩ : ∃ W4, W3.setCell ⟨p, 0, none⟩ (.int .i64 (left : Int)) = W4 := ⟨_, rfl⟩
      have hp4 : W4.heap[p]? = some (wk l left) := by rw [← hW4]; exact block_setCell (i := 0) (show _ = some (Obj.cells _ _ _) from hp3) _
      have he4 := (show W4.heap[A.heap.size]? = W3.heap[A.heap.size]? by rw [← hW4]; exact block_setOther hne _).trans he3
      have hM4 : Mod T1 W3 W4 := by rw [← hW4]; exact (Mod.refl T1 W3).setCell (p := ⟨p, 0, none⟩) (.inl HpT.out.1) _
      have hJ4 := HH.out.hJ T1 T1 _ _ _ hJ3 hM4 (sub_self _ _)
      have hs4 : W1.heap.size ≤ W4.heap.size := Nat.le_trans hs3 hM4.size
      have hT4 : ∀ t ∈ T1, t ≠ p → W4.heap[t]? = W1.heap[t]? := fun t ht hn => by rw [← hW4]; exact (block_setOther hn _).trans (hT3 t ht)
      have hb4 : Below n₀ W1 W4 := by rw [← hW4]; exact hb3.setCell (p := ⟨p, 0, none⟩) (by have := HT1b.out p HpT.out.1; have := HH.out.hB; show n₀ ≤ p; omega) _
      have c0 := cell_block (i := 0) (show _ = some (Obj.cells _ _ _) from hp3)
      have f0 := frozen_block (show _ = some (Obj.cells _ _ (0, 0)) from hp3) 0
      have k2 := cell_block he3 5
      simp only [List.getElem?_toArray, List.getElem?_cons_zero, List.getElem?_cons_succ] at c0 k2
      rw [show ((left + 1 : Nat) : Int) = (left : Int) + 1 by omega] at c0
      have HW4 := Lib.hid hW4
      have HJ4 := Lib.hid hJ4
      have HP4 := Lib.hid hp4
      have HS4 := Lib.hid hs4
      have HT4 := Lib.hid hT4
      have HB4 := Lib.hid hb4
      clear hF3 hJ3 hs3 hT3 hb3 hp3 he3 hW4 hp4 he4 hM4 hJ4 hs4 hT4 hb4
      -- what is answered where all have come
      by_cases h24 : 24 < lv
      · have hfin : WkP l p n₀ F J Jx T pre (full lv n) A (.returned (.bool true)) W4 := by
          rw [full_eq, if_pos h24]
          have hl := HL.out
          refine .inl ⟨rfl, by simp; omega, HH.out.hJ T1 T _ _ _ HJ4.out (Mod.refl _ _) (fun b hb => .inl (by rw [← HT1.out]; simp [hb])), ?_, ?_, ?_, ?_⟩
          · rw [HP4.out]; congr 2; simp; omega
          · have := HB1.out.size; exact Nat.le_trans this HS4.out
          · intro t ht hn
            exact (HT4.out t (by rw [← HT1.out]; simp [ht]) hn).trans (HB1.out.block t (HTA.out t ht))
          · exact (HB1.out.mono HAB.out.1).trans HB4.out
        have HF := Lib.hid hfin
        have hd : decide (24 < (lv : Int)) = true := by simp; omega
        clear hfin h24
        gi_wp2
        go_ret
        rw [HW4.out]
        exact HF.out
      · have hd : decide (24 < (lv : Int)) = false := by simp; omega
        have H24 := Lib.hid h24
        clear h24
        gi_wp2_with fail
        rw [HW4.out]
        clear c0 f0 k2 hd hl0
        gi_loopw [36] (fun i W => WkR l p n₀ J T1 pre n lv W4 i W) (fun i _ => nl - (intOf i).toNat)
        case atStart =>
          have hl := HL.out
          refine ⟨0, Nat.zero_le _, rfl, by simpa [fulls] using HJ4.out, by simp [fulls]; omega, ?_, Nat.le_refl _, fun _ _ _ => rfl, Below.refl _ _⟩
          rw [HP4.out]; congr 2; simp [fulls]; omega
        case round =>
          obtain ⟨j, hj, rfl, hJj, hlj, hpj, hsj, hTj, hbj⟩ := hrel
          rw [HKs.out, HNL.out] at hj
          have hbA : Below n₀ A wr := ((HB1.out.mono HAB.out.1).trans HB4.out).trans hbj
          have hsA : A.heap.size ≤ wr.heap.size := by have := HB1.out.size; have := HS4.out; omega
          have hTA : ∀ t ∈ T, t ≠ p → wr.heap[t]? = A.heap[t]? := fun t ht hn =>
            have h1 : t ∈ T1 := by rw [← HT1.out]; simp [ht]
            ((hTj t h1 hn).trans (HT4.out t h1 hn)).trans (HB1.out.block t (HTA.out t ht))
          have hJs := fun (W' : World) (q : List (Nd × Nat)) (h : J T1 q W') => HH.out.hJ T1 T q W' W' h (Mod.refl _ _) (fun b hb => .inl (by rw [← HT1.out]; simp [hb]))
          have hJxs := fun (W' : World) (q : List (Nd × Nat)) (h : Jx T1 q W') => HH.out.hJx T1 T q W' W' h (Mod.refl _ _) (fun b hb => .inl (by rw [← HT1.out]; simp [hb]))
          have hT1j : ∀ t ∈ T1, B0 ≤ t ∧ t < wr.heap.size := fun t ht => by have := HT1b.out t ht; have := HS4.out; omega
          by_cases hjl : j < nl
          · have hjk : j < ks.length := by rw [HNL.out]; exact hjl
            obtain ⟨_, hlc, hcm, _, hrd, _, hall⟩ := Is.below hbA HIs.out
            have hkid := Is.all hall ks[j] (List.getElem_mem hjk)
            have hk9 : ∀ z ∈ ks, (cells z).length = 9 := fun z hz => cells_len z (Is.all hall z hz).len
            obtain ⟨b, off, rfl, hcs⟩ := Rd.struct 9 hrd hk9 j hjk (by omega)
            have hft := fulls_take (lv + 1) ks j hjk
            have hpre : (pre ++ (n, lv) :: fulls (lv + 1) (ks.take j)) ++ full (lv + 1) ks[j] <+: F := by
              have h1 := HFF.out
              rw [HN.out, full_eq, if_neg (by simpa using H24.out), HKs.out] at h1
              refine List.IsPrefix.trans ?_ h1
              have h2 : ks = ks.take j ++ ks[j] :: ks.drop (j + 1) := by rw [List.getElem_cons_drop, List.take_append_drop]
              refine ⟨fulls (lv + 1) (ks.drop (j + 1)), ?_⟩
              conv => rhs; rw [h2]
              rw [fulls_append]
              simp [fulls]
            have HIHj := Lib.hid (HIH.out ks[j] (List.getElem_mem hjk))
            obtain ⟨kid, hkd⟩ : ∃ kid, ks[j] = kid := ⟨_, rfl⟩
            rw [hkd] at hkid hcs hft hpre HIHj
            obtain ⟨y0, y1, y2, y3, hys⟩ := four' hkid.len
            obtain ⟨kk, ksx, kmn, kmx, kt, ka, kc, kks⟩ := kid
            simp only [Nd.set] at hys
            subst hys
            have q0 := hcs 0 _ rfl (by omega)
            have q1 := hcs 1 _ rfl (by omega)
            have q2 := hcs 2 _ rfl (by omega)
            have q3 := hcs 3 _ rfl (by omega)
            have q4 := hcs 4 _ rfl (by omega)
            have q5 := hcs 5 _ rfl (by omega)
            have q6 := hcs 6 _ rfl (by omega)
            have q7 := hcs 7 _ rfl (by omega)
            have q8 := hcs 8 _ rfl (by omega)
            simp only [← Nat.add_assoc, Nat.add_zero, Nd.kind, Nd.a, Nd.kids, Nd.cap, Nd.mn, Nd.mx, Nd.text] at q0 q1 q2 q3 q4 q5 q6 q7 q8
            generalize hkl : kks.length = kl at q5
            have hnlm : nl ≤ 9223372036854775807 := by unfold maxLen at hcm; rw [← HNL.out]; omega
            obtain ⟨X, hX⟩ : ∃ X, fulls (lv + 1) (ks.take j) = X := ⟨_, rfl⟩
            rw [HKs.out, hX] at hJj hlj hpj
            rw [hX] at hpre
            obtain ⟨kid, hkid0⟩ : ∃ kid, Nd.mk kk [y0, y1, y2, y3] kmn kmx kt ka kc kks = kid := ⟨_, rfl⟩
            obtain ⟨W5, hW5⟩ : ∃ W5, wr.alloc (.cells #[.int .i64 kk, .int .u64 (y0 : Int), .int .u64 (y1 : Int), .int .u64 (y2 : Int), .int .u64 (y3 : Int), .slice ka kl kc, .int .i64 kmn, .int .i64 kmx, .string (Str kt)] 27) = W5 := ⟨_, rfl⟩
            have b5 : Below wr.heap.size wr W5 := by rw [← hW5]; exact (Below.refl _ _).alloc (Nat.le_refl _) _
            have hn5 : n₀ ≤ wr.heap.size := by have := HAB.out.1; omega
            have hnvk : nv kid = .agg #[.int .i64 kk, .int .u64 (y0 : Int), .int .u64 (y1 : Int), .int .u64 (y2 : Int), .int .u64 (y3 : Int), .slice ka kl kc, .int .i64 kmn, .int .i64 kmx, .string (Str kt)] := by rw [← hkid0, ← hkl]; rfl
            rw [hkid0] at hkid hpre HIHj hft
            have hpreL : (pre ++ (n, lv) :: X).length = pre.length + 1 + X.length := by simp; omega
            have hIH := HIHj.out (m - 1) (lv + 1) T1 (pre ++ (n, lv) :: X) W5 HpT.out.1 (fun t ht => by have := hT1j t ht; have := b5.size; omega) (Is.below (b5.mono hn5) hkid) (HH.out.hJ T1 T1 _ _ _ hJj (Mod.of_below b5 _) (sub_self _ _)) (by rw [hpreL]; exact (b5.block p (hT1j p HpT.out.1).2).trans hpj) (by rw [hpreL]; exact hlj) hpre (by have := H24.out; omega)
            rw [hnvk, show (((lv + 1 : Nat)) : Int) = (lv : Int) + 1 by omega] at hIH
            have hgo : ∀ W6, (pre ++ (n, lv) :: X).length + (full (lv + 1) kid).length ≤ 601 → J T1 ((pre ++ (n, lv) :: X) ++ full (lv + 1) kid) W6 → W6.heap[p]? = some (wk l (601 - ((pre ++ (n, lv) :: X).length + (full (lv + 1) kid).length))) → W5.heap.size ≤ W6.heap.size → (∀ t ∈ T1, t ≠ p → W6.heap[t]? = W5.heap[t]?) → Below n₀ W5 W6 → WkR l p n₀ J T1 pre n lv W4 (.int .i64 ((j : Int) + 1)) W6 := by
              intro W6 g1 g2 g3 g4 g5 g6
              rw [hpreL] at g1 g3
              refine ⟨j + 1, by rw [HKs.out]; omega, by go_num, ?_, ?_, ?_, by have := b5.size; omega, fun t ht hn => ((g5 t ht hn).trans (b5.block t (hT1j t ht).2)).trans (hTj t ht hn), (hbj.trans (b5.mono hn5)).trans g6⟩
              · rw [HKs.out, hft, hX]; simpa using g2
              · rw [HKs.out, hft, hX]; simp; omega
              · rw [HKs.out, hft, hX, g3]; congr 2; simp; omega
            have hs1 : ∀ W6, J T1 (F.take 601) W6 → WkP l p n₀ F J Jx T pre (full lv n) A (.returned (.bool false)) W6 := fun W6 h => .inr (.inl ⟨rfl, hJs _ _ h⟩)
            have hs2 : ∀ W6 r, r <+: F.take 601 → Jx T1 r W6 → WkP l p n₀ F J Jx T pre (full lv n) A (.returned (.bool false)) W6 := fun W6 r hr h => .inr (.inr ⟨rfl, r, hr, hJxs _ _ h⟩)
            have HI := Lib.hid hIH
            have HGo := Lib.hid hgo
            have HS1 := Lib.hid hs1
            have HS2 := Lib.hid hs2
            have HW5 := Lib.hid hW5
            have hdp : Fence.wide.depth.isSome = true → 1 ≤ m := fun h => by cases h
            clear hcs hkid hk9 hrd hall hft hpre hJj hlj hpj hsj hTj hbj hbA hsA hTA hJs hJxs hT1j hkl hkd hcm hlc hX hkid0 hW5 b5 hn5 hnvk hpreL hIH hgo hs1 hs2
            gi_wp2_with fail
            refine ⟨trivial, hdp, ?_⟩
            rw [HW5.out]
            refine HI.out.mono ?_
            rintro e W6 hW6
            rcases hW6 with ⟨rfl, g1, g2, g3, g4, g5, g6⟩ | ⟨rfl, g2⟩ | ⟨rfl, r, g1, g2⟩
            · have HG := Lib.hid (HGo.out W6 g1 g2 g3 g4 g5 g6)
              clear g1 g2 g3 g4 g5 g6
              gi_wp2
              go_roundw
              case rel => exact HG.out
              case measure => simp [intOf]; omega
            · have HG := Lib.hid (HS1.out W6 g2)
              clear g2
              gi_wp2
              go_ret
              exact HG.out
            · have HG := Lib.hid (HS2.out W6 r g1 g2)
              clear g1 g2
              gi_wp2
              go_ret
              exact HG.out
          · obtain rfl : j = nl := by omega
            have hfin : WkP l p n₀ F J Jx T pre (full lv n) A (.returned (.bool true)) wr := by
              rw [full_eq, if_neg (by simpa using H24.out)]
              rw [HKs.out, List.take_of_length_le (by rw [HNL.out]; exact Nat.le_refl _)] at hJj hlj hpj
              rw [HKs.out]
              refine .inl ⟨rfl, by simp; omega, hJs _ _ hJj, ?_, hsA, hTA, hbA⟩
              rw [hpj]; congr 2; simp; omega
            have HF := Lib.hid hfin
            clear hfin hJj hlj hpj hsj hTj hbj hbA hsA hTA hJs hJxs hT1j
            gi_wp2
            go_ret
            exact HF.out
theorem walk_mk (H : Wh l p n₀ B0 F J Jx) (k : Int) (s : List Nat) (mn mx : Int) (t : List UInt8) (a : Option Addr) (c : Nat) (ks : List Nd) (IH : ∀ n ∈ ks, WalkSt l p n₀ B0 F J Jx n) : WalkSt l p n₀ B0 F J Jx (.mk k s mn mx t a c ks) := by
  intro m lv T pre A hpT hT hIs hJ hw hlen hF hlv
  by_cases h : pre.length = 601
  · have hw0 : A.heap[p]? = some (wk l 0) := by rw [hw, h]
    exact walk_zero H _ hIs.len m lv T pre A hJ hw0 h (List.IsPrefix.trans ⟨_, rfl⟩ hF) _
  · obtain ⟨x0, x1, x2, x3, rfl⟩ := four' (show s.length = 4 from hIs.1)
    obtain ⟨left, hleft⟩ : ∃ left, 601 - pre.length = left + 1 := ⟨601 - pre.length - 1, by omega⟩
    exact walk_step H k x0 x1 x2 x3 mn mx t a c ks IH m lv T pre A hpT hT hIs hJ left hleft (by rw [hw, hleft]) hF hlv
mutual
theorem walk_in (H : Wh l p n₀ B0 F J Jx) : ∀ n : Nd, WalkSt l p n₀ B0 F J Jx n
  | .mk k s mn mx t a c ks => walk_mk H k s mn mx t a c ks (walk_ks H ks)
theorem walk_ks (H : Wh l p n₀ B0 F J Jx) : ∀ ks : List Nd, ∀ n ∈ ks, WalkSt l p n₀ B0 F J Jx n
  | [] => by
    intro n h
    cases h
  | k :: r => by
    have h1 := walk_in H k
    have h2 := walk_ks H r
    intro n h
    rcases List.mem_cons.1 h with rfl | h
    · exact h1
    · exact h2 n h
end
/-- Under the wide fence no depth is asked. -/
theorem yield_room {m : Nat} (m' : Nat) {P : Program} {l : Nat} {args : Array Value} {W : World} {R : Ending → World → Prop} (h : YieldAt Fence.wide m P l args W R) : YieldAt Fence.wide m' P l args W R := by
  obtain ⟨fn, tmps, assign, body, hy, hR⟩ := h
  exact ⟨fn, tmps, assign, body, hy, hR.1, fun c cs _ => hR.2 c cs (fun d hd => by cases hd)⟩
set_option maxRecDepth 100000 in
set_option maxHeartbeats 4000000 in
/-- The iterator of tree.all: all that the walk comes to, to 601 at most. -/
theorem all_seq (m n₀ bn : Nat) (n : Nd) (w0 : World) (hbn : w0.heap[bn]? = some (.cells (cells n).toArray 27 (0, 0))) (hIs : Is n₀ w0 n) (hn₀ : n₀ ≤ w0.heap.size) :
    SeqT m Tryd.prog 81 #[.pointer (some ⟨bn, 0, none⟩)] enc n₀ (walk n) w0 := by
  intro l J Jx W hW hJ hJx h0 hY
  have hbW := (hW.block bn (block_lt hbn)).trans hbn
  have hIW := Is.below (hW.mono hn₀) hIs
  obtain ⟨W1, hW1⟩ : ∃ W1, W.alloc (.cells #[.int .i64 601, .func (.yield l) #[] #[]] 109) = W1 := ⟨_, rfl⟩
  have b1 : Below W.heap.size W W1 := by rw [← hW1]; exact (Below.refl _ _).alloc (Nat.le_refl _) _
  have hz1 : W1.heap.size = W.heap.size + 1 := by rw [← hW1]; simp
  have hp1 : W1.heap[W.heap.size]? = some (wk l 601) := by rw [← hW1]; exact heap_alloc_new W _
  have hnW : n₀ ≤ W.heap.size := Nat.le_trans hn₀ hW.size
  have hb1 := (b1.block bn (block_lt hbW)).trans hbW
  have hw := walk_in (l := l) (p := W.heap.size) (n₀ := n₀) (B0 := W.heap.size) (F := full 1 n) (J := J) (Jx := Jx) ⟨hJ, hJx, fun k T pre x A h1 h2 h3 => yield_room _ (hY T pre x A h1 h2 h3), hnW⟩ n (m - 1) 1 [W.heap.size] [] W1
    (by simp) (by intro t ht; simp at ht; omega) (Is.below (b1.mono hnW) hIW) (hJ [] [W.heap.size] [] W W1 h0 (Mod.of_below b1 _) (by intro b hb; simp at hb; exact .inr (by omega))) hp1 (by simp) (by simp) (by omega)
  have hfin : ∀ e W', WkP l W.heap.size n₀ (full 1 n) J Jx [W.heap.size] [] (full 1 n) W1 e W' → (∃ v, e = .returned v) ∧ (J [] (walk n) W' ∨ ∃ pre, pre <+: walk n ∧ Jx [] pre W') := by
    intro e W' h
    have hsubs : ∀ b ∈ ([] : List Nat), b ∈ [W.heap.size] ∨ W'.heap.size ≤ b := by simp
    rcases h with ⟨rfl, g1, g2, _⟩ | ⟨rfl, g2⟩ | ⟨rfl, r, g1, g2⟩
    · refine ⟨⟨_, rfl⟩, .inl ?_⟩
      have : walk n = full 1 n := List.take_of_length_le (by simpa using g1)
      rw [this]
      exact hJ _ _ _ _ _ (by simpa using g2) (Mod.refl _ _) hsubs
    · exact ⟨⟨_, rfl⟩, .inl (hJ _ _ _ _ _ g2 (Mod.refl _ _) hsubs)⟩
    · exact ⟨⟨_, rfl⟩, .inr ⟨r, g1, hJx _ _ _ _ _ g2 (Mod.refl _ _) hsubs⟩⟩
  obtain ⟨x0, x1, x2, x3, hs⟩ := four' hIs.len
  obtain ⟨k, s, mn, mx, t, a, c, ks⟩ := n
  simp only [Nd.set] at hs
  subst hs
  have HW := Lib.hid hw
  have HF := Lib.hid hfin
  have d0 := cell_block hb1
  have z0 := d0 0
  have z1 := d0 1
  have z2 := d0 2
  have z3 := d0 3
  have z4 := d0 4
  have z5 := d0 5
  have z6 := d0 6
  have z7 := d0 7
  have z8 := d0 8
  simp only [cells, w64, Nd.kind, Nd.set, Nd.a, Nd.kids, Nd.cap, Nd.mn, Nd.mx, Nd.text, List.map_cons, List.map_nil, List.cons_append, List.nil_append, List.getElem?_toArray, List.getElem?_cons_zero, List.getElem?_cons_succ] at z0 z1 z2 z3 z4 z5 z6 z7 z8
  have HW1 := Lib.hid hW1
  rw [← hW1] at z0 z1 z2 z3 z4 z5 z6 z7 z8
  have hnvk : nv (.mk k [x0, x1, x2, x3] mn mx t a c ks) = .agg #[.int .i64 k, .int .u64 (x0 : Int), .int .u64 (x1 : Int), .int .u64 (x2 : Int), .int .u64 (x3 : Int), .slice a ks.length c, .int .i64 mn, .int .i64 mx, .string (Str t)] := rfl
  rw [hnvk] at HW
  clear d0 hb1 hw hfin hbn hIs hbW hIW b1 hz1 hp1 hW1 hW hJ hJx h0 hY hnvk
  generalize ks.length = nl at *
  refine callsIn_of_wp Tryd.func81 rfl trivial ?_ rfl
  simp only [Tryd.ntmps81, List.size_toArray, List.length_cons, List.length_nil, Nat.reduceAdd, Nat.reduceSub, Array.replicate_succ, Array.replicate_zero, List.push_toArray, List.append_toArray, List.nil_append, List.cons_append]
  gi_wp2_with fail
  refine ⟨trivial, fun h => (by cases h), ?_⟩
  rw [HW1.out]
  refine HW.out.mono ?_
  intro e W6 h6
  obtain ⟨⟨v, rfl⟩, hr⟩ := HF.out e W6 h6
  have HR := Lib.hid hr
  clear h6 hr
  gi_wp2
  go_end0
  exact ⟨⟨_, rfl⟩, HR.out⟩
end Tr
end Go.Proofs.YtoeeddfinmfnoaaDoor
