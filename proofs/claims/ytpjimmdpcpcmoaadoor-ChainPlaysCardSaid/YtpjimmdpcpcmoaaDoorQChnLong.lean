import Derived.Test.YtpjimmdpcpcmoaaDoorQChnLaw1
import Derived.Test.YtpjimmdpcpcmoaaDoorQPoolKp
/- dofferlaw31: within. -/
namespace Go.Proofs.YtpjimmdpcpcmoaaDoor
open Go Go.RowKit Kt
namespace Ch
open Po
variable {w w' w2 w3 W : World}
set_option maxRecDepth 100000 in
set_option maxHeartbeats 2000000 in
theorem within_c (b s a c : Int) (w : World) : Calls Tryd.prog 35 #[.agg #[.int .i64 b, .int .i64 s, .int .i64 a, .int .i64 c]] w fun e w' => ∃ B S A C : Nat, e = .returned (.agg #[.int .i64 (B : Int), .int .i64 (S : Int), .int .i64 (A : Int), .int .i64 (C : Int)]) ∧ 1 ≤ B ∧ B ≤ 12 ∧ 1 ≤ S ∧ S ≤ 9 ∧ 1 ≤ A ∧ A ≤ B ∧ 1 ≤ C ∧ C ≤ B ∧ Below w.heap.size w w' := by
  obtain ⟨B, hB, hB1⟩ := low b 12 (by omega) (by omega)
  obtain ⟨S, hS, hS1⟩ := low s 9 (by omega) (by omega)
  obtain ⟨A, hA, hA1⟩ := low a (1 + (B : Int)) (by omega) (by omega)
  obtain ⟨C, hC, hC1⟩ := low c (1 + (B : Int)) (by omega) (by omega)
  have hwb : IntKind.u64.wrap (1 + (B : Int)) = 1 + (B : Int) := by simp [IntKind.wrap, IntKind.bits, IntKind.signed]; omega
  have o1 := (Below.refl w.heap.size w).alloc (Nat.le_refl _) (.cells #[.int .i64 b, .int .i64 s, .int .i64 a, .int .i64 c] 65 (0, 0))
  go_enter Tryd.func35, Tryd.ntmps35
  go_wp2_with fail
  obtain ⟨W2, hW2⟩ : ∃ W2, (w.alloc (.cells #[.int .i64 (1 + (B : Int)), .int .i64 (1 + (S : Int)), .int .i64 a, .int .i64 c] 65)).alloc (.cells #[.int .i64 0, .int .i64 0, .int .i64 0, .int .i64 0] 65) = W2 := ⟨_, rfl⟩
  rw [hW2]
  have hB2 : Below w.heap.size w W2 := by
    rw [← hW2]
    exact ((Below.refl w.heap.size w).alloc (Nat.le_refl _) _).alloc (by simp) _
  have l1 : W2.heap[w.heap.size]? = some (.cells #[.int .i64 (1 + (B : Int)), .int .i64 (1 + (S : Int)), .int .i64 a, .int .i64 c] 65 (0, 0)) := by
    rw [← hW2]
    exact block_alloc (World.alloc_heap_new w _)
  have l2 : W2.heap[w.heap.size + 1]? = some (.cells #[.int .i64 0, .int .i64 0, .int .i64 0, .int .i64 0] 65 (0, 0)) := by
    rw [← hW2, show w.heap.size + 1 = (w.alloc (.cells #[.int .i64 (1 + (B : Int)), .int .i64 (1 + (S : Int)), .int .i64 a, .int .i64 c] 65)).heap.size by simp]
    exact World.alloc_heap_new _ _
  have k0 := cell_block l1 0
  have k2 := cell_block l1 2
  have k3 := cell_block l1 3
  have f2 := frozen_block l1 2
  have f3 := frozen_block l1 3
  simp only [List.getElem?_toArray, List.getElem?_cons_zero, List.getElem?_cons_succ] at k0 k2 k3
  have hrz : (1 + (B : Int)) ≠ 0 := by omega
  generalize hH : w.heap.size = H at *
  have HH := Lib.hid hH
  have H2 := Lib.hid (And.intro hB2 (And.intro l1 l2))
  clear hW2 hB2 l1 l2 o1 hH
  go_region
  obtain ⟨W3, hW3⟩ : ∃ W3, ((W2.setCell ⟨H, 2, none⟩ (.int .i64 (1 + (A : Int)))).setCell ⟨H, 3, none⟩ (.int .i64 (1 + (C : Int)))).drew = W3 := ⟨_, rfl⟩
  rw [hW3]
  obtain ⟨hB2, l1, l2⟩ := H2.out
  have hHw : H + 1 < W2.heap.size := block_lt l2
  have m1 : W3.heap[H]? = some (.cells #[.int .i64 (1 + (B : Int)), .int .i64 (1 + (S : Int)), .int .i64 (1 + (A : Int)), .int .i64 (1 + (C : Int))] 65 (0, 0)) := by
    rw [← hW3]
    exact block_setCell (block_setCell l1 _) _
  have m2 : W3.heap[H + 1]? = some (.cells #[.int .i64 0, .int .i64 0, .int .i64 0, .int .i64 0] 65 (0, 0)) := by
    rw [← hW3]
    exact (block_setOther (show H + 1 ≠ H by omega) _).trans ((block_setOther (show H + 1 ≠ H by omega) _).trans l2)
  have hB3 : Below H w W3 := by
    rw [← hW3]
    exact ((hB2.setCell (Nat.le_refl _) _).setCell (Nat.le_refl _) _).drew
  have c0 := cell_block m1 0
  have c1 := cell_block m1 1
  have c2 := cell_block m1 2
  have c3 := cell_block m1 3
  have d0 := cell_block m2 0
  have d1 := cell_block m2 1
  have d2 := cell_block m2 2
  have d3 := cell_block m2 3
  have g0 := frozen_block m2 0
  have g1 := frozen_block m2 1
  have g2 := frozen_block m2 2
  have g3 := frozen_block m2 3
  simp only [List.getElem?_toArray, List.getElem?_cons_zero, List.getElem?_cons_succ] at c0 c1 c2 c3 d0 d1 d2 d3
  have hfin : ∀ v0 v1 v2 v3, ((((W3.setCell ⟨H + 1, 0, none⟩ v0).setCell ⟨H + 1, 1, none⟩ v1).setCell ⟨H + 1, 2, none⟩ v2).setCell ⟨H + 1, 3, none⟩ v3).heap[H + 1]? = some (.cells #[v0, v1, v2, v3] 65 (0, 0)) := fun v0 v1 v2 v3 => block_setCell (block_setCell (block_setCell (block_setCell m2 _) _) _) _
  have hfb : ∀ v0 v1 v2 v3, Below H w ((((W3.setCell ⟨H + 1, 0, none⟩ v0).setCell ⟨H + 1, 1, none⟩ v1).setCell ⟨H + 1, 2, none⟩ v2).setCell ⟨H + 1, 3, none⟩ v3) := fun v0 v1 v2 v3 => (((hB3.setCell (Nat.le_succ _) _).setCell (Nat.le_succ _) _).setCell (Nat.le_succ _) _).setCell (Nat.le_succ _) _
  have HF := Lib.hid hfin
  have HFB := Lib.hid hfb
  clear H2 hB2 l1 l2 k0 k2 k3 f2 f3 m1 m2 hB3 hfin hfb hW3
  go_wp2
  ((try simp only [Exit.inBlock, Exit.then]); refine bodyPost_ret (results_cell_row rfl _ _ (H + 1) 65 _ (0, 0) _ rfl (HF.out _ _ _ _) Tryd.underlying65 rfl ?hi1) rfl ?_; (case hi1 => kernel_rfl))
  exact ⟨1 + B, 1 + S, 1 + A, 1 + C, by simp, by omega, by omega, by omega, by omega, by omega, by omega, by omega, by omega, by rw [HH.out]; exact HFB.out _ _ _ _⟩
end Ch
end Go.Proofs.YtpjimmdpcpcmoaaDoor

/- dofferlaw31: lists of acts; long. -/
namespace Go.Proofs.YtpjimmdpcpcmoaaDoor
open Go Go.RowKit Kt
namespace Ch
open Po
variable {w w' w2 w3 W : World}
/-- An act's four cells. -/
structure AcC where
  k : Int
  n : Int
  a : Option Addr
  b : List UInt8
  cap : Nat
  wh : Bool
instance : Inhabited AcC := ⟨⟨0, 0, none, [], 0, false⟩⟩
def ac4 (x : AcC) : List Value := [.int .i64 x.k, .int .i64 x.n, .slice x.a x.b.length x.cap, .bool x.wh]
/-- An act whose bytes can be read. -/
def AcC.ok (w : World) (x : AcC) : Prop := Rd w x.a (u8s x.b) ∧ (x.a = none → x.cap = 0) ∧ x.b.length ≤ x.cap ∧ x.cap ≤ maxLen ∧ (Lit.int .i64 x.n).wf = true ∧ (Lit.int .i64 x.k).wf = true
def lg (l : List AcC) : Bool := decide (60 < l.length) || l.any fun x => decide (200 < x.b.length)
theorem lg_no {l : List AcC} (h : lg l = false) : l.length ≤ 60 ∧ ∀ x ∈ l, x.b.length ≤ 200 := by
  unfold lg at h
  simp only [Bool.or_eq_false_iff, decide_eq_false_iff_not, List.any_eq_false, decide_eq_true_eq] at h
  exact ⟨by omega, fun x hx => by have := h.2 x hx; omega⟩
set_option maxRecDepth 100000 in
set_option maxHeartbeats 2000000 in
theorem long_c (a : Option Addr) (cap : Nat) (l : List AcC) (w : World) (hl : l.length ≤ 9223372036854775807) (hr : Rd w a (l.flatMap ac4)) (hb : ∀ x ∈ l, x.b.length ≤ 9223372036854775807) :
    Calls Tryd.prog 34 #[.slice a l.length cap] w fun e w' => e = .returned (.bool (lg l)) ∧ Below w.heap.size w w' := by
  obtain ⟨N, hN⟩ : ∃ N, l.length = N := ⟨_, rfl⟩
  have HR := Lib.hid hr
  have HN := Lib.hid hN
  have HBl := Lib.hid hb
  by_cases h60 : 60 < N
  · have hlg : lg l = true := by unfold lg; rw [hN, decide_eq_true h60]; rfl
    rw [hN, hlg]
    have hd : decide ((60 : Int) < (N : Int)) = true := by simp; omega
    clear hl hr hb hN hlg
    go_enter Tryd.func34, Tryd.ntmps34
    go_wp2
    go_ret
    exact ⟨rfl, Below.refl _ _⟩
  · have hlg : lg l = l.any fun x => decide (200 < x.b.length) := by unfold lg; rw [hN, decide_eq_false h60]; rfl
    rw [hN, hlg]
    rw [hN] at hl
    have hd : decide ((60 : Int) < (N : Int)) = false := by simp; omega
    clear hr hb hN hlg
    go_enter Tryd.func34, Tryd.ntmps34
    go_wp2
    go_loopw [4, 10] (fun _ i W => ∃ j : Nat, j ≤ N ∧ i = .int .i64 (j : Int) ∧ (∀ x ∈ l.take j, x.b.length ≤ 200) ∧ Below w.heap.size w W) (fun _ i _ => N - (cj i).toNat)
    case atStart => exact ⟨0, Nat.zero_le _, rfl, by simp, Below.refl _ _⟩
    case round =>
      obtain ⟨j, hj, rfl, hno, hB⟩ := hrel
      by_cases hjN : j < N
      · have hjl : j < l.length := by rw [HN.out]; exact hjN
        obtain ⟨b, off, ha, hcs⟩ := (HR.out.keep hB).struct 4 (by intro z _; rfl) j hjl (by omega)
        have k0 := hcs 0 _ rfl (by omega)
        have k1 := hcs 1 _ rfl (by omega)
        have k2 := hcs 2 _ rfl (by omega)
        have k3 := hcs 3 _ rfl (by omega)
        have hmem := List.getElem_mem hjl
        have hbl := HBl.out _ hmem
        have hnx : l.take (j + 1) = l.take j ++ [l[j]] := List.take_succ_eq_append_getElem hjl
        clear hcs
        subst ha
        generalize l[j] = act at *
        obtain ⟨kd, n, aa, bs, cp, wh⟩ := act
        simp only [Nat.add_zero] at k0 k1 k2 k3 hbl
        rw [← Nat.add_assoc] at k1 k2 k3
        have hB4 := Lib.hid (fun o => hB.alloc hB.size o)
        obtain ⟨m, hm⟩ : ∃ m, bs.length = m := ⟨_, rfl⟩
        rw [hm] at k2 hbl
        by_cases h200 : 200 < m
        · have hd2 : decide ((200 : Int) < (m : Int)) = true := by simp; omega
          have hany : (l.any fun x => decide (200 < x.b.length)) = true := List.any_eq_true.2 ⟨_, hmem, by simp only [hm]; exact decide_eq_true h200⟩
          have HA := Lib.hid hany
          clear hno hB hany hmem hnx hm
          go_wp2
          go_ret
          exact ⟨by rw [HA.out]; rfl, hB4.out _⟩
        · have hd2 : decide ((200 : Int) < (m : Int)) = false := by simp; omega
          have HNo := Lib.hid (And.intro hno (And.intro hnx hm))
          clear hno hB hmem hnx hm
          go_wp2
          go_roundw
          case rel =>
            refine ⟨j + 1, by omega, by go_num, fun x hx => ?_, hB4.out _⟩
            rw [HNo.out.2.1] at hx
            rcases List.mem_append.1 hx with h | h
            · exact HNo.out.1 x h
            · simp only [List.mem_singleton] at h
              subst h
              have h1 := HNo.out.2.2
              simp only
              omega
          case measure => simp [cj]; omega
      · obtain rfl : j = N := by omega
        have hany : (l.any fun x => decide (200 < x.b.length)) = false := by
          rw [List.any_eq_false]
          intro x hx
          have h1 := HN.out
          rw [← h1, List.take_length] at hno
          have := hno x hx
          simp only [decide_eq_true_eq]
          omega
        have HA := Lib.hid hany
        have HB := Lib.hid hB
        clear hno hB hany
        go_wp2
        go_ret
        exact ⟨by rw [HA.out]; rfl, HB.out⟩
end Ch
end Go.Proofs.YtpjimmdpcpcmoaaDoor
