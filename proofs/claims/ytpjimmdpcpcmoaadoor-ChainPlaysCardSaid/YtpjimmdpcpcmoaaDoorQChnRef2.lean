import Derived.Test.YtpjimmdpcpcmoaaDoorQChnRef
import Derived.Test.YtpjimmdpcpcmoaaDoorQChnDrop2
/- The document's chain (dofferref31): Drop. -/
namespace Go.Proofs.YtpjimmdpcpcmoaaDoor
open Go Go.RowKit Kt
namespace Ch
open Po
variable {w w' W W' : World} {r : Nat} {S S' M : List Nat} {q : Nat} {c c' : Cn}
set_option maxRecDepth 100000 in
set_option maxHeartbeats 1000000 in
theorem rdrop_no (n s o : Nat) (i : Int) (h : RC w r S q c) (hi : i < 0 ∨ (c.all.length : Int) < i) :
    Calls Tryd.prog 42 #[.pointer (some ⟨r, 0, none⟩), .agg #[.int .i64 (n : Int), .int .i64 (s : Int), .int .i64 (o : Int)], .int .i64 i] w fun e w' => e = .returned (.int .i64 1) ∧ Below w.heap.size w w' := by
  obtain ⟨a, cap, h1, _⟩ := h.ex
  have k2 := cell_block h1 2
  simp only [List.getElem?_toArray, List.getElem?_cons_zero, List.getElem?_cons_succ] at k2
  have hB := (Below.refl w.heap.size w).alloc (Nat.le_refl _) (.cells #[.int .i64 (n : Int), .int .i64 (s : Int), .int .i64 (o : Int)] 80 (0, 0))
  have x2 := (hB.cell (lt_of_cell k2)).trans k2
  generalize c.all.length = L at *
  have HB := Lib.hid hB
  by_cases h0 : i < 0
  · have hd : decide (i < 0) = true := decide_eq_true h0
    clear h h1 hB k2 hi
    go_enter Tryd.func42, Tryd.ntmps42
    go_wp2
    go_ret
    exact ⟨rfl, HB.out⟩
  · have hd : decide (i < 0) = false := decide_eq_false h0
    have hm : (L : Int) < i := by omega
    clear h h1 hB k2 hi
    go_enter Tryd.func42, Tryd.ntmps42
    go_wp2
    go_ret
    exact ⟨rfl, HB.out⟩
/-- Behind the stores of Drop. -/
theorem RC.dropped {i cap' : Nat} {s : Nat} {a a' : Option Addr}
    (hr : Rd w a' (u8s (c.all.drop i))) (hs : ba a' = ba a) (hS : S = r :: ba a) (hg : ∀ g ∈ ba a, g < w.heap.size ∧ g ≠ r) (hc1 : c.all.length - i ≤ cap') (hc2 : cap' ≤ maxLen) (hc3 : a' = none → cap' = 0) (hc4 : ∀ p, a' = some p → ∃ g off, p = ⟨g, off, none⟩) (hB : Below w.heap.size w W) {W2 : World}
    (hM : Mod [r] W W2) (h2 : W2.heap[r]? = some (.cells #[.int .i64 (q : Int), .int .i64 (df s c.frm i c.all.length : Int), .slice a' (c.all.length - i) cap', .int .i64 (c.came : Int), .int .i64 ((c.went + i : Nat) : Int)] 78 (0, 0))) :
    RC W2 r S q (drp s c i) ∧ Mod [r] w W2 := by
  have hM2 : Mod [r] w W2 := (Mod.of_below hB [r]).trans hM (fun x hx => .inl hx)
  refine ⟨⟨a', cap', ?_, ?_, by rw [hs]; exact hS, fun g hg' => ?_, ?_, hc2, hc3, hc4⟩, hM2⟩
  · simp only [drp, List.length_drop]
    exact h2
  · refine hr.mod hM2 (fun p hp e => ?_)
    simp only [List.mem_singleton] at e
    exact (hg p.block (by rw [← hs, hp]; simp [ba])).2 e
  · rw [hs] at hg'
    exact ⟨Nat.lt_of_lt_of_le (hg g hg').1 hM2.size, (hg g hg').2⟩
  · simp only [drp, List.length_drop]
    exact hc1
set_option maxRecDepth 100000 in
set_option maxHeartbeats 2000000 in
theorem rdrop_yes (n s o : Nat) (i : Nat) (h : RC w r S q c) (hs : 0 < s) (hs2 : s ≤ 64) (hf : c.frm < s) (hcm : c.came ≤ 1000000000) (hcw : c.went + c.all.length = c.came) (hi : i ≤ c.all.length) :
    Calls Tryd.prog 42 #[.pointer (some ⟨r, 0, none⟩), .agg #[.int .i64 (n : Int), .int .i64 (s : Int), .int .i64 (o : Int)], .int .i64 (i : Int)] w fun e w' => e = .returned (.int .i64 0) ∧ RC w' r S q (drp s c i) ∧ Mod [r] w w' := by
  obtain ⟨a, cap, h1, hrd, hS, hg, hcl, hcm', hcn, hca⟩ := h.ex
  have hr := block_lt h1
  have k2 := cell_block h1 2
  simp only [List.getElem?_toArray, List.getElem?_cons_zero, List.getElem?_cons_succ] at k2
  have x2 := (((Below.refl w.heap.size w).alloc (Nat.le_refl _) (.cells #[.int .i64 (n : Int), .int .i64 (s : Int), .int .i64 (o : Int)] 80 (0, 0))).cell (lt_of_cell k2)).trans k2
  have xf := (((Below.refl w.heap.size w).alloc (Nat.le_refl _) (.cells #[.int .i64 (n : Int), .int .i64 (s : Int), .int .i64 (o : Int)] 80 (0, 0))).frozen (p := ⟨r, 2, none⟩) hr).trans (frozen_block h1 2)
  have hb1 := h1
  have hrb : r ≠ w.heap.size := by omega
  have hfin := fun (a' : Option Addr) (cap' : Nat) W2 hr' hs' => RC.dropped (w := w) (W := w) (W2 := W2) (i := i) (c := c) (q := q) (r := r) (S := S) (a := a) (s := s) (a' := a') (cap' := cap') hr' hs' hS hg
  unfold maxLen at hcm'
  have hlm : c.all.length ≤ 1000000000 := by omega
  have hwm : c.went ≤ 1000000000 := by omega
  have hmd : ((c.frm : Int) + (i : Int)) % (s : Int) = (((c.frm + i) % s : Nat) : Int) := by simp
  have hdf : df s c.frm i c.all.length = if i = c.all.length then 0 else (c.frm + i) % s := rfl
  obtain ⟨L, hL⟩ : ∃ L, c.all.length = L := ⟨_, rfl⟩
  obtain ⟨f, hfq⟩ : ∃ L, c.frm = L := ⟨_, rfl⟩
  obtain ⟨wt, hwt⟩ : ∃ L, c.went = L := ⟨_, rfl⟩
  obtain ⟨cm, hcme⟩ : ∃ L, c.came = L := ⟨_, rfl⟩
  rw [hL, hfq] at hdf
  rw [hL, hfq, hwt, hcme] at hb1
  rw [hL, hfq, hwt, hcme] at hfin
  rw [hL] at k2 x2 hcl hi hlm
  rw [hfq] at hmd hf
  rw [hwt] at hwm
  have hs0 : (s : Int) ≠ 0 := by omega
  have hd : decide ((i : Int) < 0) = false := decide_eq_false (by omega)
  have hm : ¬ (L : Int) < (i : Int) := by omega
  have hil : (i : Int) ≤ (L : Int) := by omega
  have hlc : (L : Int) ≤ (cap : Int) := by omega
  have hic : (i : Int) ≤ (cap : Int) := by omega
  have hsb1 : (L : Int) - (i : Int) = ((L - i : Nat) : Int) := by omega
  have HFin := Lib.hid hfin
  have HL := Lib.hid hL
  have HB1 := Lib.hid hb1
  have HMd := Lib.hid hmd
  have HD := Lib.hid hdf
  have HRd := Lib.hid hrd
  have HCn := Lib.hid hcn
  clear h h1 hrd hS hg hfin hb1 hL hfq hwt hcme hmd hdf hcn hcm hcw k2
  rcases a with _ | p
  · obtain rfl := HCn.out rfl
    obtain rfl : L = 0 := by omega
    obtain rfl : i = 0 := by omega
    have HMd := Lib.hid (show (f : Int) % (s : Int) = ((f % s : Nat) : Int) by simp)
    go_enter Tryd.func42, Tryd.ntmps42
    go_wp2_with fail
    obtain ⟨w1, hw1⟩ : ∃ w1, (w.setCell ⟨r, 2, none⟩ (.slice none 0 0)).alloc (.cells #[.int .i64 (n : Int), .int .i64 (s : Int), .int .i64 (o : Int)] 80 (0, 0)) = w1 := ⟨_, rfl⟩
    rw [hw1]
    have l1 : w1.heap[r]? = some (.cells #[.int .i64 (q : Int), .int .i64 (f : Int), .slice none 0 0, .int .i64 (cm : Int), .int .i64 (wt : Int)] 78 (0, 0)) := by
      rw [← hw1]
      exact block_alloc (block_setCell HB1.out _)
    have z1 : w1.cell? ⟨w.heap.size, 1, none⟩ = some (.int .i64 (s : Int)) := by
      rw [← hw1]
      have hb := World.alloc_heap_new (w.setCell ⟨r, 2, none⟩ (.slice none 0 0)) (.cells #[.int .i64 (n : Int), .int .i64 (s : Int), .int .i64 (o : Int)] 80 (0, 0))
      rw [show (w.setCell ⟨r, 2, none⟩ (.slice none 0 0)).heap.size = w.heap.size by simp] at hb
      exact cell_block hb 1
    have y1 := cell_block l1 1
    have yf := frozen_block l1 1
    simp only [List.getElem?_toArray, List.getElem?_cons_zero, List.getElem?_cons_succ] at y1
    have hM1 : Mod [r] w w1 := by
      rw [← hw1]
      exact ((Mod.refl [r] w).setCell (.inl (by simp)) _).alloc _
    have H1 := Lib.hid (And.intro l1 hM1)
    clear x2 xf l1 hM1 hw1
    go_region
    rw [HMd.out]
    obtain ⟨w2, hw2⟩ : ∃ w2, (w1.setCell ⟨r, 1, none⟩ (.int .i64 ((f % s : Nat) : Int))).drew = w2 := ⟨_, rfl⟩
    rw [hw2]
    have l2 : w2.heap[r]? = some (.cells #[.int .i64 (q : Int), .int .i64 ((f % s : Nat) : Int), .slice none 0 0, .int .i64 (cm : Int), .int .i64 (wt : Int)] 78 (0, 0)) := by
      rw [← hw2]
      exact block_setCell H1.out.1 _
    have hM2 : Mod [r] w w2 := by
      rw [← hw2]
      exact (H1.out.2.setCell (.inl (by simp)) _).drew
    have c1 := cell_block l2 1
    have c2 := cell_block l2 2
    have c4 := cell_block l2 4
    have g1 := frozen_block l2 1
    have g4 := frozen_block l2 4
    simp only [List.getElem?_toArray, List.getElem?_cons_zero, List.getElem?_cons_succ] at c1 c2 c4
    have hwi : (wt : Int) = ((wt : Nat) : Int) := rfl
    have HWi := Lib.hid hwi
    have l3 := block_setCell (i := 1) l2 (.int .i64 ((0 : Nat) : Int))
    have l4 := block_setCell (i := 4) l3 (.int .i64 ((wt : Nat) : Int))
    have hM4 : Mod [r] w ((w2.setCell ⟨r, 1, none⟩ (.int .i64 ((0 : Nat) : Int))).setCell ⟨r, 4, none⟩ (.int .i64 ((wt : Nat) : Int))) := (hM2.setCell (.inl (by simp)) _).setCell (.inl (by simp)) _
    have H4 := Lib.hid (And.intro hM4 l4)
    clear l2 l3 l4 hM2 hM4 hw2 H1 hwi y1 yf z1
    go_wp2
    go_ret
    have hwi := HWi.out
    have hdf := HD.out
    simp only [if_true] at hdf
    have hf := HFin.out none 0 _ (by have h1 := HL.out; have h2 : c.all = [] := List.length_eq_zero_iff.1 h1; rw [h2]; exact Rd.nil _ _) rfl (by omega) (by unfold maxLen; omega) (fun _ => rfl) (fun p hp => by cases hp) (Below.refl _ _) H4.out.1
    rw [hdf] at hf
    have hf2 := hf (by simpa using H4.out.2)
    try simp only [Int.natCast_add] at hf2
    exact ⟨rfl, by simpa using hf2⟩
  · obtain ⟨g, off, rfl⟩ := hca p rfl
    have hsome : ∀ p, some (⟨g, off, none⟩ : Addr) = some p → ∃ g off, p = ⟨g, off, none⟩ := fun p hp => ⟨g, off, by simpa using hp.symm⟩
    have hsome2 : ∀ p, some (⟨g, off + i, none⟩ : Addr) = some p → ∃ g off, p = ⟨g, off, none⟩ := fun p hp => ⟨g, off + i, by simpa using hp.symm⟩
    have HSm := Lib.hid (And.intro hsome hsome2)
    clear hsome hsome2 hca
    by_cases hci : cap = i
    · obtain rfl : L = i := by omega
      subst hci
      have hLi : cap - cap = 0 := Nat.sub_self _
      go_enter Tryd.func42, Tryd.ntmps42
      go_wp2_with fail
      obtain ⟨w1, hw1⟩ : ∃ w1, (w.setCell ⟨r, 2, none⟩ (.slice (some ⟨g, off, none⟩) 0 0)).alloc (.cells #[.int .i64 (n : Int), .int .i64 (s : Int), .int .i64 (o : Int)] 80 (0, 0)) = w1 := ⟨_, rfl⟩
      rw [hw1]
      have l1 : w1.heap[r]? = some (.cells #[.int .i64 (q : Int), .int .i64 (f : Int), .slice (some ⟨g, off, none⟩) 0 0, .int .i64 (cm : Int), .int .i64 (wt : Int)] 78 (0, 0)) := by
        rw [← hw1]
        exact block_alloc (block_setCell HB1.out _)
      have z1 : w1.cell? ⟨w.heap.size, 1, none⟩ = some (.int .i64 (s : Int)) := by
        rw [← hw1]
        have hb := World.alloc_heap_new (w.setCell ⟨r, 2, none⟩ (.slice (some ⟨g, off, none⟩) 0 0)) (.cells #[.int .i64 (n : Int), .int .i64 (s : Int), .int .i64 (o : Int)] 80 (0, 0))
        rw [show (w.setCell ⟨r, 2, none⟩ (.slice (some ⟨g, off, none⟩) 0 0)).heap.size = w.heap.size by simp] at hb
        exact cell_block hb 1
      have y1 := cell_block l1 1
      have yf := frozen_block l1 1
      simp only [List.getElem?_toArray, List.getElem?_cons_zero, List.getElem?_cons_succ] at y1
      have hM1 : Mod [r] w w1 := by
        rw [← hw1]
        exact ((Mod.refl [r] w).setCell (.inl (by simp)) _).alloc _
      have H1 := Lib.hid (And.intro l1 hM1)
      clear x2 xf l1 hM1 hw1
      go_region
      rw [HMd.out]
      obtain ⟨w2, hw2⟩ : ∃ w2, (w1.setCell ⟨r, 1, none⟩ (.int .i64 (((f + cap) % s : Nat) : Int))).drew = w2 := ⟨_, rfl⟩
      rw [hw2]
      have l2 : w2.heap[r]? = some (.cells #[.int .i64 (q : Int), .int .i64 (((f + cap) % s : Nat) : Int), .slice (some ⟨g, off, none⟩) 0 0, .int .i64 (cm : Int), .int .i64 (wt : Int)] 78 (0, 0)) := by
        rw [← hw2]
        exact block_setCell H1.out.1 _
      have hM2 : Mod [r] w w2 := by
        rw [← hw2]
        exact (H1.out.2.setCell (.inl (by simp)) _).drew
      have c1 := cell_block l2 1
      have c2 := cell_block l2 2
      have c4 := cell_block l2 4
      have g1 := frozen_block l2 1
      have g4 := frozen_block l2 4
      simp only [List.getElem?_toArray, List.getElem?_cons_zero, List.getElem?_cons_succ] at c1 c2 c4
      have hwi : (wt : Int) + (cap : Int) = ((wt + cap : Nat) : Int) := by simp
      have HWi := Lib.hid hwi
      have l3 := block_setCell (i := 1) l2 (.int .i64 ((0 : Nat) : Int))
      have l4 := block_setCell (i := 4) l3 (.int .i64 ((wt + cap : Nat) : Int))
      have hM4 : Mod [r] w ((w2.setCell ⟨r, 1, none⟩ (.int .i64 ((0 : Nat) : Int))).setCell ⟨r, 4, none⟩ (.int .i64 ((wt + cap : Nat) : Int))) := (hM2.setCell (.inl (by simp)) _).setCell (.inl (by simp)) _
      have H4 := Lib.hid (And.intro hM4 l4)
      clear l2 l3 l4 hM2 hM4 hw2 H1 hwi y1 yf z1
      go_wp2
      go_ret
      have hwi := HWi.out
      have hdf := HD.out
      simp only [if_true] at hdf
      have hf := HFin.out (some ⟨g, off, none⟩) 0 _ (by have h1 := HL.out; have h2 : c.all.drop cap = [] := List.drop_eq_nil_of_le (by omega); rw [h2]; exact Rd.nil _ _) rfl (by omega) (by unfold maxLen; omega) (fun h => by cases h) HSm.out.1 (Below.refl _ _) H4.out.1
      rw [hdf] at hf
      have hf2 := hf (by simpa using H4.out.2)
      try simp only [Int.natCast_add] at hf2
      exact ⟨rfl, by simpa using hf2⟩
    · have hic2 : i < cap := by omega
      have hcn : ¬ cap = i := hci
      by_cases hil2 : L = i
      · obtain rfl := hil2
        go_enter Tryd.func42, Tryd.ntmps42
        go_wp2_with fail
        obtain ⟨w1, hw1⟩ : ∃ w1, (w.setCell ⟨r, 2, none⟩ (.slice (some ⟨g, off + L, none⟩) 0 (cap - L))).alloc (.cells #[.int .i64 (n : Int), .int .i64 (s : Int), .int .i64 (o : Int)] 80 (0, 0)) = w1 := ⟨_, rfl⟩
        rw [hw1]
        have l1 : w1.heap[r]? = some (.cells #[.int .i64 (q : Int), .int .i64 (f : Int), .slice (some ⟨g, off + L, none⟩) 0 (cap - L), .int .i64 (cm : Int), .int .i64 (wt : Int)] 78 (0, 0)) := by
          rw [← hw1]
          exact block_alloc (block_setCell HB1.out _)
        have z1 : w1.cell? ⟨w.heap.size, 1, none⟩ = some (.int .i64 (s : Int)) := by
          rw [← hw1]
          have hb := World.alloc_heap_new (w.setCell ⟨r, 2, none⟩ (.slice (some ⟨g, off + L, none⟩) 0 (cap - L))) (.cells #[.int .i64 (n : Int), .int .i64 (s : Int), .int .i64 (o : Int)] 80 (0, 0))
          rw [show (w.setCell ⟨r, 2, none⟩ (.slice (some ⟨g, off + L, none⟩) 0 (cap - L))).heap.size = w.heap.size by simp] at hb
          exact cell_block hb 1
        have y1 := cell_block l1 1
        have yf := frozen_block l1 1
        simp only [List.getElem?_toArray, List.getElem?_cons_zero, List.getElem?_cons_succ] at y1
        have hM1 : Mod [r] w w1 := by
          rw [← hw1]
          exact ((Mod.refl [r] w).setCell (.inl (by simp)) _).alloc _
        have H1 := Lib.hid (And.intro l1 hM1)
        clear x2 xf l1 hM1 hw1
        go_region
        rw [HMd.out]
        obtain ⟨w2, hw2⟩ : ∃ w2, (w1.setCell ⟨r, 1, none⟩ (.int .i64 (((f + L) % s : Nat) : Int))).drew = w2 := ⟨_, rfl⟩
        rw [hw2]
        have l2 : w2.heap[r]? = some (.cells #[.int .i64 (q : Int), .int .i64 (((f + L) % s : Nat) : Int), .slice (some ⟨g, off + L, none⟩) 0 (cap - L), .int .i64 (cm : Int), .int .i64 (wt : Int)] 78 (0, 0)) := by
          rw [← hw2]
          exact block_setCell H1.out.1 _
        have hM2 : Mod [r] w w2 := by
          rw [← hw2]
          exact (H1.out.2.setCell (.inl (by simp)) _).drew
        have c1 := cell_block l2 1
        have c2 := cell_block l2 2
        have c4 := cell_block l2 4
        have g1 := frozen_block l2 1
        have g4 := frozen_block l2 4
        simp only [List.getElem?_toArray, List.getElem?_cons_zero, List.getElem?_cons_succ] at c1 c2 c4
        have hwi : (wt : Int) + (L : Int) = ((wt + L : Nat) : Int) := by simp
        have HWi := Lib.hid hwi
        have l3 := block_setCell (i := 1) l2 (.int .i64 ((0 : Nat) : Int))
        have l4 := block_setCell (i := 4) l3 (.int .i64 ((wt + L : Nat) : Int))
        have hM4 : Mod [r] w ((w2.setCell ⟨r, 1, none⟩ (.int .i64 ((0 : Nat) : Int))).setCell ⟨r, 4, none⟩ (.int .i64 ((wt + L : Nat) : Int))) := (hM2.setCell (.inl (by simp)) _).setCell (.inl (by simp)) _
        have H4 := Lib.hid (And.intro hM4 l4)
        clear l2 l3 l4 hM2 hM4 hw2 H1 hwi y1 yf z1
        go_wp2
        go_ret
        have hwi := HWi.out
        have hdf := HD.out
        simp only [if_true] at hdf
        have hf := HFin.out (some ⟨g, off + L, none⟩) (cap - L) _ (by have h1 := HL.out; have h2 : c.all.drop L = [] := List.drop_eq_nil_of_le (by omega); rw [h2]; exact Rd.nil _ _) rfl (by omega) (by unfold maxLen; omega) (fun h => by cases h) HSm.out.2 (Below.refl _ _) H4.out.1
        rw [hdf] at hf
        have hf2 := hf (by simpa using H4.out.2)
        try simp only [Int.natCast_add] at hf2
        exact ⟨rfl, by simpa using hf2⟩
      · have hLib : ((L - i : Nat) : Int) ≠ 0 := by omega
        have hLib2 : (((L - i : Nat) : Int) == 0) = false := by simp; omega
        have HIL := Lib.hid (fun e : i = L => hil2 e.symm)
        go_enter Tryd.func42, Tryd.ntmps42
        go_wp2_with fail
        obtain ⟨w1, hw1⟩ : ∃ w1, (w.setCell ⟨r, 2, none⟩ (.slice (some ⟨g, off + i, none⟩) (L - i) (cap - i))).alloc (.cells #[.int .i64 (n : Int), .int .i64 (s : Int), .int .i64 (o : Int)] 80 (0, 0)) = w1 := ⟨_, rfl⟩
        rw [hw1]
        have l1 : w1.heap[r]? = some (.cells #[.int .i64 (q : Int), .int .i64 (f : Int), .slice (some ⟨g, off + i, none⟩) (L - i) (cap - i), .int .i64 (cm : Int), .int .i64 (wt : Int)] 78 (0, 0)) := by
          rw [← hw1]
          exact block_alloc (block_setCell HB1.out _)
        have z1 : w1.cell? ⟨w.heap.size, 1, none⟩ = some (.int .i64 (s : Int)) := by
          rw [← hw1]
          have hb := World.alloc_heap_new (w.setCell ⟨r, 2, none⟩ (.slice (some ⟨g, off + i, none⟩) (L - i) (cap - i))) (.cells #[.int .i64 (n : Int), .int .i64 (s : Int), .int .i64 (o : Int)] 80 (0, 0))
          rw [show (w.setCell ⟨r, 2, none⟩ (.slice (some ⟨g, off + i, none⟩) (L - i) (cap - i))).heap.size = w.heap.size by simp] at hb
          exact cell_block hb 1
        have y1 := cell_block l1 1
        have yf := frozen_block l1 1
        simp only [List.getElem?_toArray, List.getElem?_cons_zero, List.getElem?_cons_succ] at y1
        have hM1 : Mod [r] w w1 := by
          rw [← hw1]
          exact ((Mod.refl [r] w).setCell (.inl (by simp)) _).alloc _
        have H1 := Lib.hid (And.intro l1 hM1)
        clear x2 xf l1 hM1 hw1
        go_region
        rw [HMd.out]
        obtain ⟨w2, hw2⟩ : ∃ w2, (w1.setCell ⟨r, 1, none⟩ (.int .i64 (((f + i) % s : Nat) : Int))).drew = w2 := ⟨_, rfl⟩
        rw [hw2]
        have l2 : w2.heap[r]? = some (.cells #[.int .i64 (q : Int), .int .i64 (((f + i) % s : Nat) : Int), .slice (some ⟨g, off + i, none⟩) (L - i) (cap - i), .int .i64 (cm : Int), .int .i64 (wt : Int)] 78 (0, 0)) := by
          rw [← hw2]
          exact block_setCell H1.out.1 _
        have hM2 : Mod [r] w w2 := by
          rw [← hw2]
          exact (H1.out.2.setCell (.inl (by simp)) _).drew
        have c1 := cell_block l2 1
        have c2 := cell_block l2 2
        have c4 := cell_block l2 4
        have g1 := frozen_block l2 1
        have g4 := frozen_block l2 4
        simp only [List.getElem?_toArray, List.getElem?_cons_zero, List.getElem?_cons_succ] at c1 c2 c4
        have hwi : (wt : Int) + (i : Int) = ((wt + i : Nat) : Int) := by simp
        have HWi := Lib.hid hwi
        have l4 := block_setCell (i := 4) l2 (.int .i64 ((wt + i : Nat) : Int))
        have hM4 : Mod [r] w (w2.setCell ⟨r, 4, none⟩ (.int .i64 ((wt + i : Nat) : Int))) := hM2.setCell (.inl (by simp)) _
        have H4 := Lib.hid (And.intro hM4 l4)
        clear l2 l4 hM2 hM4 hw2 H1 hwi y1 yf z1
        go_wp2
        go_ret
        have hwi := HWi.out
        have hdf := HD.out
        rw [if_neg HIL.out] at hdf
        have hf := HFin.out (some ⟨g, off + i, none⟩) (cap - i) _ (by have h1 := HRd.out.drop i; simpa [u8s, List.map_drop] using h1) rfl (by omega) (by unfold maxLen; omega) (fun h => by cases h) HSm.out.2 (Below.refl _ _) H4.out.1
        rw [hdf] at hf
        have hf2 := hf (by simpa using H4.out.2)
        try simp only [Int.natCast_add] at hf2
        exact ⟨rfl, by simpa using hf2⟩
end Ch
end Go.Proofs.YtpjimmdpcpcmoaaDoor
