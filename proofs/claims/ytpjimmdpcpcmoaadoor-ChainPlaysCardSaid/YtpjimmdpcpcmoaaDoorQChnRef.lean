import Derived.Test.YtpjimmdpcpcmoaaDoorQChnPush
import Derived.Test.YtpjimmdpcpcmoaaDoorQApp
import Derived.Deep.RegionHeld3
/- The document's chain (dofferref31) in memory: Held, Drop. -/
namespace Go.Proofs.YtpjimmdpcpcmoaaDoor
open Go Go.RowKit Kt
namespace Ch
open Po
variable {w w' W W' : World} {r : Nat} {S S' M : List Nat} {q : Nat} {c c' : Cn}
def ba (a : Option Addr) : List Nat := (a.map (·.block)).toList
/-- A model's chain: its struct at r, its credit q; S: its blocks. -/
structure RC (w : World) (r : Nat) (S : List Nat) (q : Nat) (c : Cn) : Prop where
  ex : ∃ (a : Option Addr) (cap : Nat), w.heap[r]? = some (.cells #[.int .i64 (q : Int), .int .i64 (c.frm : Int), .slice a c.all.length cap, .int .i64 (c.came : Int), .int .i64 (c.went : Int)] 78 (0, 0)) ∧ Rd w a (u8s c.all) ∧ S = r :: ba a ∧ (∀ g ∈ ba a, g < w.heap.size ∧ g ≠ r) ∧ c.all.length ≤ cap ∧ cap ≤ maxLen ∧ (a = none → cap = 0) ∧ ∀ p, a = some p → ∃ g off, p = ⟨g, off, none⟩
theorem RC.lts (h : RC w r S q c) : ∀ g ∈ S, g < w.heap.size := by
  obtain ⟨a, cap, h1, _, rfl, h3, _⟩ := h.ex
  intro g hg
  rcases List.mem_cons.1 hg with rfl | hg
  · exact block_lt h1
  · exact (h3 g hg).1
theorem RC.mem (h : RC w r S q c) : r ∈ S := by obtain ⟨_, _, _, _, rfl, _⟩ := h.ex; simp
theorem RC.mod (h : RC w r S q c) (hM : Mod M w w') (hd : ∀ g ∈ S, g ∉ M) : RC w' r S q c := by
  obtain ⟨a, cap, h1, h2, rfl, h3, h4⟩ := h.ex
  exact ⟨a, cap, (hM.block r (block_lt h1) (hd r (by simp))).trans h1, h2.mod hM (fun p hp => hd _ (by subst hp; simp [ba])), rfl, fun g hg => ⟨Nat.lt_of_lt_of_le (h3 g hg).1 hM.size, (h3 g hg).2⟩, h4⟩
theorem RC.below (h : RC w r S q c) (hb : Below w.heap.size w w') : RC w' r S q c := h.mod (Mod.of_below hb []) (by simp)
set_option maxRecDepth 100000 in
set_option maxHeartbeats 1000000 in
theorem rheld_c (n s o : Nat) (h : RC w r S q c) (hs : 0 < s) (hf : c.frm + c.all.length ≤ 1000000000000) (hs2 : s ≤ 64) :
    Calls Tryd.prog 40 #[.pointer (some ⟨r, 0, none⟩), .agg #[.int .i64 (n : Int), .int .i64 (s : Int), .int .i64 (o : Int)]] w fun e w' => e = .returned (.int .i64 (need s c.frm c.all.length : Int)) ∧ Below w.heap.size w w' := by
  obtain ⟨a, cap, h1, _⟩ := h.ex
  have k1 := cell_block h1 1
  have k2 := cell_block h1 2
  simp only [List.getElem?_toArray, List.getElem?_cons_zero, List.getElem?_cons_succ] at k1 k2
  have hr := block_lt h1
  have hB := (Below.refl w.heap.size w).alloc (Nat.le_refl _) (.cells #[.int .i64 (n : Int), .int .i64 (s : Int), .int .i64 (o : Int)] 80 (0, 0))
  have hbl := World.alloc_heap_new w (.cells #[.int .i64 (n : Int), .int .i64 (s : Int), .int .i64 (o : Int)] 80 (0, 0))
  obtain ⟨wb, hwb⟩ : ∃ wb, w.alloc (.cells #[.int .i64 (n : Int), .int .i64 (s : Int), .int .i64 (o : Int)] 80 (0, 0)) = wb := ⟨_, rfl⟩
  rw [hwb] at hB hbl
  have y1 := (hB.cell (lt_of_cell k1)).trans k1
  have y2 := (hB.cell (lt_of_cell k2)).trans k2
  have z1 := cell_block hbl 1
  simp only [List.getElem?_toArray, List.getElem?_cons_zero, List.getElem?_cons_succ] at z1
  have x2 := y2
  rw [← hwb] at x2
  generalize c.frm = f at *
  have HB := Lib.hid hB
  have HW := Lib.hid hwb
  unfold need
  generalize c.all.length = L at *
  by_cases h0 : L = 0
  · subst h0
    rw [if_pos rfl]
    clear h h1 hr hB hbl hwb k1 k2 y1 y2 z1 hf hs hs2
    go_enter Tryd.func40, Tryd.ntmps40
    go_wp2
    go_ret
    exact ⟨rfl, by rw [HW.out]; exact HB.out⟩
  · rw [if_neg h0]
    have hlb : ((L : Int) == 0) = false := by simp; omega
    have hsub : (f : Int) + (L : Int) - 1 = ((f + L - 1 : Nat) : Int) := by omega
    have hdiv : ((f + L - 1 : Nat) : Int) / (s : Int) = (((f + L - 1) / s : Nat) : Int) := by simp
    have hle := Nat.div_le_self (f + L - 1) s
    have hwr : wrap64 (((f : Int) + (L : Int) - 1) / (s : Int) + 1) = (((f + L - 1) / s + 1 : Nat) : Int) := by
      rw [hsub, hdiv]
      generalize (f + L - 1) / s = d at *
      unfold wrap64
      omega
    have hs0 : (s : Int) ≠ 0 := by omega
    have HE := Lib.hid hwr
    clear h h1 hr hB hbl hwb k1 k2 hsub hdiv hwr hle
    go_enter Tryd.func40, Tryd.ntmps40
    go_wp2_with fail
    rw [HW.out]
    go_quiet (fail)
    go_wp2
    go_ret
    refine ⟨?_, below_drewN HB.out _⟩
    show Ending.returned (.int .i64 (wrap64 (((f : Int) + (L : Int) - 1) / (s : Int) + 1))) = _
    rw [HE.out]
end Ch
end Go.Proofs.YtpjimmdpcpcmoaaDoor
