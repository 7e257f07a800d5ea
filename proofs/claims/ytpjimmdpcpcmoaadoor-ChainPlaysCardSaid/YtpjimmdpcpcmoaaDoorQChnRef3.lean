import Derived.Test.YtpjimmdpcpcmoaaDoorQChnRef2
import Derived.Test.YtpjimmdpcpcmoaaDoorQChnAt
/- The document's chain (dofferref31): Push. -/
namespace Go.Proofs.YtpjimmdpcpcmoaaDoor
open Go Go.RowKit Kt
namespace Ch
open Po
variable {w w' W W' : World} {r : Nat} {S S' M : List Nat} {q : Nat} {c c' : Cn}
/-- 'append(append([]byte{}, xs...), x)': the two runs. -/
theorem app2b (W : World) (a : Option Addr) (m c : Nat) (xs : List UInt8) (x : UInt8) (hl : xs.length = m) (hr : Rd W a (u8s xs)) (hno : a = none → c = 0) (hm : m ≤ 1000000) :
    ∃ a1 c1 w1 g c2 w2, (Builtin.append_ #[54, 54] 54 #[.slice (some ⟨W.heap.size, 0, none⟩) 0 0, .slice a m c]).run Tryd.prog (W.alloc (.cells #[] 5)) = .ok (.slice a1 m c1) w1 ∧
      (Builtin.append_ #[54, 54] 54 #[.slice a1 m c1, .slice (some ⟨w1.heap.size, 0, none⟩) 1 1]).run Tryd.prog (w1.alloc (.cells #[.int .u8 (x.toNat : Int)] 5)) = .ok (.slice (some ⟨g, 0, none⟩) (m + 1) c2) w2 ∧
      w2.ownsRow W.heap.size 5 1 (.slice (some ⟨g, 0, none⟩) (m + 1) c2) (m + 1) (u8s (xs ++ [x])) ∧ Below W.heap.size W w2 ∧ W.heap.size ≤ g ∧ g < w2.heap.size ∧ m + 1 ≤ c2 ∧ c2 ≤ maxLen := by
  have own0 := World.ownsRow_made (base := W.heap.size) (e := 5) (size := 1) W #[] 0 (Nat.le_refl _) (by decide) rfl
  have hb0 := (Below.refl W.heap.size W).alloc (Nat.le_refl _) (.cells #[] 5)
  obtain ⟨v1, w1, hrun1, own1, gr1, _⟩ := elB.append W.heap.size (ty := 54) own0 m c (by simp [u8s_length, hl]) (hr.keep hb0) hno (oneCell_u8s _) (by unfold maxLen; omega) (by omega) hb0.size
  have hB1 : Below W.heap.size W w1 := hb0.grown gr1 hb0.size (fun j hj => (own0.lt j hj).1)
  simp only [Nat.zero_add] at hrun1 own1
  obtain ⟨a1, c1, rfl, _⟩ := rd_own own1
  have hb2 := hB1.alloc hB1.size (.cells #[.int .u8 (x.toNat : Int)] 5)
  have own1a := own1.alloc (.cells #[.int .u8 (x.toNat : Int)] 5)
  obtain ⟨v2, w2, hrun2, own2, gr2, _⟩ := elB.append W.heap.size (ty := 54) own1a 1 1 (news := [.int .u8 (x.toNat : Int)]) rfl (Rd.new w1 _ _ _ _ rfl) (fun h => by cases h) (by intro u hu; simp only [List.mem_singleton] at hu; subst hu; rfl) (by unfold maxLen; omega) (by omega) hb2.size
  have hB2 : Below W.heap.size W w2 := hb2.grown gr2 hb2.size (fun j hj => (own1a.lt j hj).1)
  obtain ⟨_, ⟨hv, h0⟩ | ⟨g, cap, cur, hv, h1, h2, h3, h4, _⟩⟩ := id own2
  · omega
  · subst hv
    have e : u8s (xs ++ [x]) = u8s xs ++ [.int .u8 (x.toNat : Int)] := by rw [u8s_append]; rfl
    refine ⟨a1, c1, w1, g, cap, w2, hrun1, hrun2, by rw [e]; simpa using own2, hB2, h1, block_lt h2, h3, h4⟩
/-- The model behind a byte pushed. -/
theorem RC.pushed (h : RC w r S q c) (x : UInt8) {w2 : World} {g c2 : Nat} (ho : w2.ownsRow w.heap.size 5 1 (.slice (some ⟨g, 0, none⟩) (c.all.length + 1) c2) (c.all.length + 1) (u8s (c.all ++ [x]))) (hB : Below w.heap.size w w2) (hg : w.heap.size ≤ g) (hg2 : g < w2.heap.size) (hc1 : c.all.length + 1 ≤ c2) (hc2 : c2 ≤ maxLen) :
    RC ((w2.setCell ⟨r, 2, none⟩ (.slice (some ⟨g, 0, none⟩) (c.all.length + 1) c2)).setCell ⟨r, 3, none⟩ (.int .i64 ((c.came : Int) + 1))) r [r, g] q (psd c [x]) ∧ Mod [r] w ((w2.setCell ⟨r, 2, none⟩ (.slice (some ⟨g, 0, none⟩) (c.all.length + 1) c2)).setCell ⟨r, 3, none⟩ (.int .i64 ((c.came : Int) + 1))) := by
  obtain ⟨a, cap, h1, _, _, _⟩ := h.ex
  have hr := block_lt h1
  have h2 := (hB.block r hr).trans h1
  have h3 := block_setCell (i := 3) (block_setCell (i := 2) h2 (.slice (some ⟨g, 0, none⟩) (c.all.length + 1) c2)) (.int .i64 ((c.came : Int) + 1))
  have hM2 : Mod [r] w2 ((w2.setCell ⟨r, 2, none⟩ (.slice (some ⟨g, 0, none⟩) (c.all.length + 1) c2)).setCell ⟨r, 3, none⟩ (.int .i64 ((c.came : Int) + 1))) := ((Mod.refl [r] w2).setCell (.inl (by simp)) _).setCell (.inl (by simp)) _
  have hgr : g ≠ r := by omega
  refine ⟨⟨some ⟨g, 0, none⟩, c2, ?_, ?_, rfl, fun k hk => ?_, ?_, hc2, (fun h => by cases h), (fun p hp => ⟨g, 0, by simpa using hp.symm⟩)⟩, (Mod.of_below hB [r]).trans hM2 (fun x hx => .inl hx)⟩
  · simpa [psd] using h3
  · exact (Rd.own ho).mod hM2 (fun p hp => by simp only [Option.some.injEq] at hp; subst hp; simpa using hgr)
  · simp only [ba, Option.map_some, Option.toList_some, List.mem_singleton] at hk
    subst hk
    exact ⟨by simpa using hg2, hgr⟩
  · simpa [psd] using hc1
theorem RC.cells (h : RC w r S q c) : ∃ a cap, Rd w a (u8s c.all) ∧ (a = none → cap = 0) ∧ w.cell? ⟨r, 0, none⟩ = some (.int .i64 (q : Int)) ∧ w.cell? ⟨r, 1, none⟩ = some (.int .i64 (c.frm : Int)) ∧ w.cell? ⟨r, 2, none⟩ = some (.slice a c.all.length cap) ∧ w.cell? ⟨r, 3, none⟩ = some (.int .i64 (c.came : Int)) ∧ w.cell? ⟨r, 4, none⟩ = some (.int .i64 (c.went : Int)) ∧ ∀ i, w.frozen? ⟨r, i, none⟩ = false := by
  obtain ⟨a, cap, h1, h2, _, _, _, _, h3, _⟩ := h.ex
  exact ⟨a, cap, h2, h3, cell_block h1 0, cell_block h1 1, cell_block h1 2, cell_block h1 3, cell_block h1 4, frozen_block h1⟩
/-- Where the loop of Push stands. -/
def RPs (w wb : World) (r : Nat) (S : List Nat) (q : Nat) (c : Cn) (b : List UInt8) (F : Nat → Int) (n0 N : Nat) (i : Value) (W : World) : Prop :=
  ∃ j : Nat, j ≤ N ∧ i = .int .i64 (j : Int) ∧ (∀ i, i < j → F (n0 + i) = 0) ∧ ∃ S', RC W r S' q (psd c (b.take j)) ∧ Mod [r] wb W ∧ Fr S' S w.heap.size
set_option maxRecDepth 100000 in
set_option maxHeartbeats 4000000 in
theorem rpush_c (n s o : Nat) (a : Option Addr) (cap : Nat) (b : List UInt8) (h : RC w r S q c) (hs : 0 < s) (hs2 : s ≤ 64) (_hn : n ≤ 1000) (ho : o ≤ 1000) (hf : c.frm < s) (hz : c.all = [] → c.frm = 0) (hcm : c.came + b.length ≤ 1000000) (hcw : c.went + c.all.length = c.came) (hr : ∀ W, Mod [r] w W → Rd W a (u8s b)) :
    Calls Tryd.prog 41 #[.pointer (some ⟨r, 0, none⟩), .agg #[.int .i64 (n : Int), .int .i64 (s : Int), .int .i64 (o : Int)], .slice a b.length cap] w fun e w' => e = .returned (.tuple #[.int .i64 ((psh (one s c.frm q o n) c.all.length b.length).1 : Int), .int .i64 (psh (one s c.frm q o n) c.all.length b.length).2]) ∧
      ∃ S', RC w' r S' q (psd c (b.take (psh (one s c.frm q o n) c.all.length b.length).1)) ∧ Mod [r] w w' ∧ Fr S' S w.heap.size := by
  have hrl : r < w.heap.size := h.lts r h.mem
  have hB := (Below.refl w.heap.size w).alloc (Nat.le_refl _) (.cells #[.int .i64 (n : Int), .int .i64 (s : Int), .int .i64 (o : Int)] 80 (0, 0))
  have hbl := World.alloc_heap_new w (.cells #[.int .i64 (n : Int), .int .i64 (s : Int), .int .i64 (o : Int)] 80 (0, 0))
  obtain ⟨wb, hwb⟩ : ∃ wb, w.alloc (.cells #[.int .i64 (n : Int), .int .i64 (s : Int), .int .i64 (o : Int)] 80 (0, 0)) = wb := ⟨_, rfl⟩
  rw [hwb] at hB hbl
  have hHl : w.heap.size < wb.heap.size := block_lt hbl
  have hbx : ∀ W, Mod [r] wb W → W.cell? ⟨w.heap.size, 0, none⟩ = some (.int .i64 (n : Int)) ∧ W.cell? ⟨w.heap.size, 1, none⟩ = some (.int .i64 (s : Int)) ∧ W.cell? ⟨w.heap.size, 2, none⟩ = some (.int .i64 (o : Int)) := fun W hM => by
    have h1 := (hM.block w.heap.size hHl (by simp only [List.mem_singleton]; omega)).trans hbl
    exact ⟨cell_block h1 0, cell_block h1 1, cell_block h1 2⟩
  have hM0 : Mod [r] w wb := Mod.of_below hB [r]
  have hfin : ∀ W (k : Nat) S', RC W r S' q (psd c (b.take k)) → Mod [r] wb W → Fr S' S w.heap.size → ∃ S', RC W r S' q (psd c (b.take k)) ∧ Mod [r] w W ∧ Fr S' S w.heap.size := fun W k S' h1 h2 h3 => ⟨S', h1, hM0.trans h2 (fun x hx => .inl hx), h3⟩
  have hrd := fun W (hM : Mod [r] wb W) => hr W (hM0.trans hM (fun x hx => .inl hx))
  have h0 : RC wb r S q (psd c (b.take 0)) := by rw [List.take_zero, psd_nil]; exact h.below hB
  have hrS := h.mem
  have hnxt : ∀ (j : Nat) (hj : j < b.length) W S', RC W r S' q (psd c (b.take j)) → Mod [r] wb W → Fr S' S w.heap.size → ∀ (a : Option Addr) (cap : Nat), Rd W a (u8s (psd c (b.take j)).all) → (a = none → cap = 0) → ∃ a1 c1 w1 g c2 w2, (Builtin.append_ #[54, 54] 54 #[.slice (some ⟨W.heap.size, 0, none⟩) 0 0, .slice a (c.all.length + j) cap]).run Tryd.prog (W.alloc (.cells #[] 5)) = .ok (.slice a1 (c.all.length + j) c1) w1 ∧
      (Builtin.append_ #[54, 54] 54 #[.slice a1 (c.all.length + j) c1, .slice (some ⟨w1.heap.size, 0, none⟩) 1 1]).run Tryd.prog (w1.alloc (.cells #[.int .u8 (b[j].toNat : Int)] 5)) = .ok (.slice (some ⟨g, 0, none⟩) (c.all.length + j + 1) c2) w2 ∧
      (w2.cell? ⟨r, 2, none⟩ = W.cell? ⟨r, 2, none⟩ ∧ w2.frozen? ⟨r, 2, none⟩ = false ∧ (w2.setCell ⟨r, 2, none⟩ (.slice (some ⟨g, 0, none⟩) (c.all.length + j + 1) c2)).cell? ⟨r, 3, none⟩ = some (.int .i64 ((c.came : Int) + (j : Int))) ∧ (w2.setCell ⟨r, 2, none⟩ (.slice (some ⟨g, 0, none⟩) (c.all.length + j + 1) c2)).frozen? ⟨r, 3, none⟩ = false) ∧
      ∃ S', RC ((w2.setCell ⟨r, 2, none⟩ (.slice (some ⟨g, 0, none⟩) (c.all.length + j + 1) c2)).setCell ⟨r, 3, none⟩ (.int .i64 ((c.came : Int) + (j : Int) + 1))) r S' q (psd c (b.take (j + 1))) ∧ Mod [r] wb ((w2.setCell ⟨r, 2, none⟩ (.slice (some ⟨g, 0, none⟩) (c.all.length + j + 1) c2)).setCell ⟨r, 3, none⟩ (.int .i64 ((c.came : Int) + (j : Int) + 1))) ∧ Fr S' S w.heap.size := by
    intro j hj W S' h1 hM hF a cap hra hno
    have hlen : (psd c (b.take j)).all.length = c.all.length + j := by simp [psd]; omega
    have hcme : (psd c (b.take j)).came = c.came + j := by simp [psd]; omega
    obtain ⟨a1, c1, w1, g, c2, w2, r1, r2, r3, r4, r5, r6, r7, r8⟩ := app2b W a (c.all.length + j) cap (psd c (b.take j)).all b[j] hlen hra hno (by omega)
    have hp := h1.pushed b[j] (w2 := w2) (g := g) (c2 := c2) (by rw [hlen]; exact r3) r4 r5 r6 (by rw [hlen]; exact r7) r8
    obtain ⟨a', cap', x1, _⟩ := h1.ex
    have hrW := block_lt x1
    have x2 := (r4.block r hrW).trans x1
    have x3 := block_setCell (i := 2) x2 (.slice (some ⟨g, 0, none⟩) (c.all.length + j + 1) c2)
    rw [hlen, hcme] at hp
    have e : psd (psd c (b.take j)) [b[j]] = psd c (b.take (j + 1)) := by rw [List.take_succ_eq_append_getElem hj]; exact psd_snoc c _ _
    rw [e, Int.natCast_add] at hp
    refine ⟨a1, c1, w1, g, c2, w2, r1, r2, ⟨r4.cell (p := ⟨r, 2, none⟩) hrW, frozen_block x2 2, by rw [cell_block x3 3, hcme, Int.natCast_add]; rfl, frozen_block x3 3⟩, [r, g], hp.1, hM.trans hp.2 (fun x hx => .inl hx), fun k hk => ?_⟩
    simp only [List.mem_cons, List.not_mem_nil, or_false] at hk
    rcases hk with rfl | rfl
    · exact .inl hrS
    · exact .inr (by have := hB.size; have := hM.size; omega)
  have hone : ∀ j, one s c.frm q o n (c.all.length + j) = if (c.frm + (c.all.length + j)) % s = 0 then (if q ≤ need s c.frm (c.all.length + j) then 14 else if n ≤ need s c.frm (c.all.length + j) + o then 13 else 0) else 0 := fun j => by
    unfold one
    by_cases h1 : (c.frm + (c.all.length + j)) % s = 0
    · rw [if_pos (.inr h1), if_pos h1]
    · rw [if_neg h1, if_neg]
      rintro (h2 | h2)
      · have : c.all = [] := List.length_eq_zero_iff.1 (by omega)
        rw [hz this, h2] at h1
        simp at h1
      · exact h1 h2
  have hnz : ∀ j, (c.frm + (c.all.length + j)) % s ≠ 0 → c.all.length + j ≠ 0 := fun j h1 h2 => by
    have : c.all = [] := List.length_eq_zero_iff.1 (by omega)
    rw [hz this, h2] at h1
    simp at h1
  have hheld : ∀ (j : Nat) (hj : j < b.length) W S', RC W r S' q (psd c (b.take j)) → Calls Tryd.prog 40 #[.pointer (some ⟨r, 0, none⟩), .agg #[.int .i64 (n : Int), .int .i64 (s : Int), .int .i64 (o : Int)]] W fun e w' => e = .returned (.int .i64 (need s c.frm (c.all.length + j) : Int)) ∧ Below W.heap.size W w' := fun j hj W S' h1 => by
    have hlen : (psd c (b.take j)).all.length = c.all.length + j := by simp [psd]; omega
    have h2 := rheld_c n s o h1 hs (by rw [hlen]; simp only [psd]; omega) hs2
    rw [hlen] at h2
    exact h2
  have hcel : ∀ (j : Nat) (hj : j < b.length) W S', RC W r S' q (psd c (b.take j)) → ∃ a cap, Rd W a (u8s (psd c (b.take j)).all) ∧ (a = none → cap = 0) ∧ W.cell? ⟨r, 0, none⟩ = some (.int .i64 (q : Int)) ∧ W.cell? ⟨r, 1, none⟩ = some (.int .i64 (c.frm : Int)) ∧ W.cell? ⟨r, 2, none⟩ = some (.slice a (c.all.length + j) cap) := fun j hj W S' h1 => by
    have hlen : (psd c (b.take j)).all.length = c.all.length + j := by simp [psd]; omega
    obtain ⟨a, cap, x1, x2, x3, x4, x5, _⟩ := h1.cells
    rw [hlen] at x5
    exact ⟨a, cap, x1, x2, x3, x4, x5⟩
  have hfb : ∀ x, need s c.frm x ≤ x + 64 := fun x => by
    unfold need
    split
    · omega
    · have := Nat.div_le_self (c.frm + x - 1) s; omega
  obtain ⟨N, hN⟩ : ∃ N, b.length = N := ⟨_, rfl⟩
  obtain ⟨n0, hn0⟩ : ∃ N, c.all.length = N := ⟨_, rfl⟩
  obtain ⟨cm, hcme⟩ : ∃ N, c.came = N := ⟨_, rfl⟩
  have hlm : n0 + N ≤ 1000000 := by omega
  have hcmm : cm + N ≤ 1000000 := by omega
  rw [hn0] at hnxt hone hheld hcel hnz
  rw [hcme] at hnxt
  generalize hfq : c.frm = f at *
  generalize hFF : one s f q o n = F at *
  have HBx := Lib.hid hbx
  have HFin := Lib.hid hfin
  have HRd := Lib.hid hrd
  have H0 := Lib.hid h0
  have HNx := Lib.hid hnxt
  have HOne := Lib.hid hone
  have HHd := Lib.hid hheld
  have HCl := Lib.hid hcel
  have HFb := Lib.hid hfb
  have HNzz := Lib.hid hnz
  have HN := Lib.hid hN
  have HW := Lib.hid hwb
  have HSz := Lib.hid hB.size
  rw [hN, hn0]
  clear hbx hfin hrd h0 hnxt hone hheld hcel hfb hnz h hr hz hcm hcw hB hbl hHl hM0 hrS hwb hfq hFF hN hn0 hcme hrl
  go_enter Tryd.func41, Tryd.ntmps41
  go_wp2_with fail
  rw [HW.out]
  go_loopw [8, 9, 12] (fun _ _ i W => RPs w wb r S q c b F n0 N i W) (fun _ _ i _ => N - (cj i).toNat)
  case atStart => exact ⟨0, Nat.zero_le _, rfl, fun i hi => absurd hi (Nat.not_lt_zero _), S, H0.out, Mod.refl _ _, fun _ h => .inl h⟩
  case round =>
    clear H0
    obtain ⟨j, hj, rfl, hzj, S', hRC, hM, hF⟩ := hrel
    by_cases hjN : j < N
    · have hjl : j < b.length := by rw [HN.out]; exact hjN
      obtain ⟨g0, off0, ha, hc⟩ := (HRd.out _ hM).u8 j hjl
      obtain ⟨aa, cp, hra, hno, q0, q1, q2⟩ := HCl.out j hjl _ _ hRC
      obtain ⟨b0, b1, b2⟩ := HBx.out _ hM
      have hone := HOne.out j
      have hFn := HFb.out (n0 + j)
      have hnz := HNzz.out j
      subst ha
      have hmd : ((f : Int) + ((n0 + j : Nat) : Int)) % (s : Int) = (((f + (n0 + j)) % s : Nat) : Int) := by simp
      have hmd2 : ((f : Int) + ((n0 : Int) + (j : Int))) % (s : Int) = (((f + (n0 + j)) % s : Nat) : Int) := by simp
      have hs0 : (s : Int) ≠ 0 := by omega
      have hsN : ¬ s = 0 := by omega
      have hwr : IntKind.i64.wrap ((f : Int) + ((n0 : Int) + (j : Int))) = (f : Int) + ((n0 : Int) + (j : Int)) := by
        simp [IntKind.wrap, IntKind.bits, IntKind.signed]
        omega
      have htm : ((f : Int) + ((n0 : Int) + (j : Int))).tmod (s : Int) = (((f + (n0 + j)) % s : Nat) : Int) := by rw [Int.tmod_eq_emod_of_nonneg (by omega)]; exact hmd2
      have HRC := Lib.hid (And.intro hRC (And.intro hM hF))
      have HZj := Lib.hid hzj
      have hheld := HHd.out j hjl
      have hnx := HNx.out j hjl
      generalize b[j].toNat = xn at *
      generalize (f + (n0 + j)) % s = rm at *
      generalize need s f (n0 + j) = H at *
      have hwr2 : IntKind.i64.wrap ((H : Int) + (o : Int)) = (H : Int) + (o : Int) := by
        simp [IntKind.wrap, IntKind.bits, IntKind.signed]
        omega
      have HHl := Lib.hid hheld
      have HNxt := Lib.hid hnx
      have HRa := Lib.hid (And.intro hra hno)
      have HOn := Lib.hid hone
      have HNz := Lib.hid hnz
      clear hRC hM hF hzj hheld hnx hra hno hone hnz
      have HQ := Lib.hid (And.intro q0 (And.intro q1 (And.intro q2 (And.intro b0 (And.intro b1 b2)))))
      by_cases hrm : rm = 0
      · subst hrm
        have hsk : ∀ W, Below wr.heap.size wr W → W.cell? ⟨r, 0, none⟩ = some (.int .i64 (q : Int)) ∧ W.cell? ⟨r, 1, none⟩ = some (.int .i64 (f : Int)) ∧ W.cell? ⟨r, 2, none⟩ = some (.slice aa (n0 + j) cp) ∧ W.cell? ⟨w.heap.size, 0, none⟩ = some (.int .i64 (n : Int)) ∧ W.cell? ⟨w.heap.size, 1, none⟩ = some (.int .i64 (s : Int)) ∧ W.cell? ⟨w.heap.size, 2, none⟩ = some (.int .i64 (o : Int)) := fun W hb => ⟨(hb.cell (lt_of_cell HQ.out.1)).trans HQ.out.1, (hb.cell (lt_of_cell HQ.out.2.1)).trans HQ.out.2.1, (hb.cell (lt_of_cell HQ.out.2.2.1)).trans HQ.out.2.2.1, (hb.cell (lt_of_cell HQ.out.2.2.2.1)).trans HQ.out.2.2.2.1, (hb.cell (lt_of_cell HQ.out.2.2.2.2.1)).trans HQ.out.2.2.2.2.1, (hb.cell (lt_of_cell HQ.out.2.2.2.2.2)).trans HQ.out.2.2.2.2.2⟩
        have HSk := Lib.hid hsk
        have n0d : Below wr.heap.size wr wr.drew := (Below.refl _ _).drew
        clear hsk q0 q1 q2 b0 b1 b2
        go_wp2_with fail
        refine wp_region_noPanic ?_
        refine wp_region_held_drew (S := fun W => W.cell? ⟨r, 0, none⟩ = some (.int .i64 (q : Int)) ∧ W.cell? ⟨r, 1, none⟩ = some (.int .i64 (f : Int)) ∧ W.cell? ⟨r, 2, none⟩ = some (.slice aa (n0 + j) cp) ∧ W.cell? ⟨w.heap.size, 0, none⟩ = some (.int .i64 (n : Int)) ∧ W.cell? ⟨w.heap.size, 1, none⟩ = some (.int .i64 (s : Int)) ∧ W.cell? ⟨w.heap.size, 2, none⟩ = some (.int .i64 (o : Int))) (by kernel_rfl) (HSk.out _ n0d) (fun hHeld => ?_)
        (refine wpAnyH_take (i := 0) (v := ?v0n1) (by simp only [List.getElem?_toArray, List.getElem?_cons_succ, List.getElem?_cons_zero]; rfl) (by kernel_rfl) (by kernel_rfl) (by kernel_rfl) (fun _ _ _ h => False.elim h) (Or.inl ⟨by rfl, ?hy0n1⟩) (by assumption) ?rest0n1; (case hy0n1 => (intro w hSw; (try dsimp only at hSw); go_simp; (try with_reducible rfl))); (try simp only [Act.put, List.setIfInBounds_toArray, List.set_cons_zero, List.set_cons_succ]))
        (refine wpAnyH_take (i := 1) (v := ?v1n2) (by simp only [List.getElem?_toArray, List.getElem?_cons_succ, List.getElem?_cons_zero]; rfl) (by kernel_rfl) (by kernel_rfl) (by kernel_rfl) (fun _ _ _ h => False.elim h) (Or.inl ⟨by rfl, ?hy1n2⟩) (by assumption) ?rest1n2; (case hy1n2 => (intro w hSw; (try dsimp only at hSw); go_simp; (try with_reducible rfl))); (try simp only [Act.put, List.setIfInBounds_toArray, List.set_cons_zero, List.set_cons_succ]))
        (refine wpAnyH_take (i := 2) (v := ?v2n3) (by simp only [List.getElem?_toArray, List.getElem?_cons_succ, List.getElem?_cons_zero]; rfl) (by kernel_rfl) (by kernel_rfl) (by kernel_rfl) (fun _ _ _ h => False.elim h) (Or.inl ⟨by rfl, ?hy2n3⟩) (by assumption) ?rest2n3; (case hy2n3 => (intro w hSw; (try dsimp only at hSw); go_simp; (try with_reducible rfl))); (try simp only [Act.put, List.setIfInBounds_toArray, List.set_cons_zero, List.set_cons_succ]))
        (refine wpAnyH_take (i := 3) (v := ?v3n4) (by simp only [List.getElem?_toArray, List.getElem?_cons_succ, List.getElem?_cons_zero]; rfl) (by kernel_rfl) (by kernel_rfl) (by kernel_rfl) (fun _ _ _ h => False.elim h) (Or.inl ⟨by rfl, ?hy3n4⟩) (by assumption) ?rest3n4; (case hy3n4 => (intro w hSw; (try dsimp only at hSw); go_simp; (try with_reducible rfl))); (try simp only [Act.put, List.setIfInBounds_toArray, List.set_cons_zero, List.set_cons_succ]))
        (refine wpAnyH_take (i := 4) (v := ?v4n5) (by simp only [List.getElem?_toArray, List.getElem?_cons_succ, List.getElem?_cons_zero]; rfl) (by kernel_rfl) (by kernel_rfl) (by kernel_rfl) (fun _ _ _ h => False.elim h) (Or.inl ⟨by rfl, ?hy4n5⟩) (by assumption) ?rest4n5; (case hy4n5 => (intro w hSw; (try dsimp only at hSw); go_simp; (try with_reducible rfl))); (try simp only [Act.put, List.setIfInBounds_toArray, List.set_cons_zero, List.set_cons_succ]))
        (refine wpAnyH_take (i := 5) (v := ?v5n6) (by simp only [List.getElem?_toArray, List.getElem?_cons_succ, List.getElem?_cons_zero]; rfl) (by kernel_rfl) (by kernel_rfl) (by kernel_rfl) (fun _ _ _ h => False.elim h) (Or.inl ⟨by rfl, ?hy5n6⟩) (by assumption) ?rest5n6; (case hy5n6 => (intro w hSw; (try dsimp only at hSw); go_simp; (try with_reducible rfl))); (try simp only [Act.put, List.setIfInBounds_toArray, List.set_cons_zero, List.set_cons_succ]))
        (refine wpAnyH_take (i := 6) (v := ?v6n7) (by simp only [List.getElem?_toArray, List.getElem?_cons_succ, List.getElem?_cons_zero]; rfl) (by kernel_rfl) (by kernel_rfl) (by kernel_rfl) (fun _ _ _ h => False.elim h) (Or.inl ⟨by rfl, ?hy6n7⟩) (by assumption) ?rest6n7; (case hy6n7 => (intro w hSw; (try dsimp only at hSw); go_simp; (try with_reducible rfl))); (try simp only [Act.put, List.setIfInBounds_toArray, List.set_cons_zero, List.set_cons_succ]))
        (refine wpAnyH_take (i := 7) (v := ?v7n8) (by simp only [List.getElem?_toArray, List.getElem?_cons_succ, List.getElem?_cons_zero]; rfl) (by kernel_rfl) (by kernel_rfl) (by kernel_rfl) (fun _ _ _ h => False.elim h) (Or.inl ⟨by rfl, ?hy7n8⟩) (by assumption) ?rest7n8; (case hy7n8 => (intro w hSw; (try dsimp only at hSw); go_simp; (try with_reducible rfl))); (try simp only [Act.put, List.setIfInBounds_toArray, List.set_cons_zero, List.set_cons_succ]))
        (refine wpAnyH_take (i := 8) (v := ?v8n9) (by simp only [List.getElem?_toArray, List.getElem?_cons_succ, List.getElem?_cons_zero]; rfl) (by kernel_rfl) (by kernel_rfl) (by kernel_rfl) (fun _ _ _ h => False.elim h) (Or.inl ⟨by rfl, ?hy8n9⟩) (by assumption) ?rest8n9; (case hy8n9 => (intro w hSw; (try dsimp only at hSw); go_simp; (try with_reducible rfl))); (try simp only [Act.put, List.setIfInBounds_toArray, List.set_cons_zero, List.set_cons_succ]))
        (refine wpAnyH_take (i := 9) (v := ?v9n10) (by simp only [List.getElem?_toArray, List.getElem?_cons_succ, List.getElem?_cons_zero]; rfl) (by kernel_rfl) (by kernel_rfl) (by kernel_rfl) (fun _ _ _ h => False.elim h) (Or.inl ⟨by rfl, ?hy9n10⟩) (by assumption) ?rest9n10; (case hy9n10 => (intro w hSw; (try dsimp only at hSw); go_simp; (try with_reducible rfl))); (try simp only [Act.put, List.setIfInBounds_toArray, List.set_cons_zero, List.set_cons_succ]))
        (refine wpAnyH_take (i := 10) (v := ?v10n11) (by simp only [List.getElem?_toArray, List.getElem?_cons_succ, List.getElem?_cons_zero]; rfl) (by kernel_rfl) (by kernel_rfl) (by kernel_rfl) (fun _ _ _ h => False.elim h) (Or.inl ⟨by rfl, ?hy10n11⟩) (by assumption) ?rest10n11; (case hy10n11 => (intro w hSw; (try dsimp only at hSw); go_simp; (try with_reducible rfl))); (try simp only [Act.put, List.setIfInBounds_toArray, List.set_cons_zero, List.set_cons_succ]))
        (refine wpAnyH_take (i := 11) (v := ?v11n12) (by simp only [List.getElem?_toArray, List.getElem?_cons_succ, List.getElem?_cons_zero]; rfl) (by kernel_rfl) (by kernel_rfl) (by kernel_rfl) (fun _ _ _ h => False.elim h) (Or.inl ⟨by rfl, ?hy11n12⟩) (by assumption) ?rest11n12; (case hy11n12 => (intro w hSw; (try dsimp only at hSw); go_simp; (try with_reducible rfl))); (try simp only [Act.put, List.setIfInBounds_toArray, List.set_cons_zero, List.set_cons_succ]))
        (refine wpAnyH_take (i := 12) (v := ?v12n13) (by simp only [List.getElem?_toArray, List.getElem?_cons_succ, List.getElem?_cons_zero]; rfl) (by kernel_rfl) (by kernel_rfl) (by kernel_rfl) (fun _ _ _ h => False.elim h) (Or.inl ⟨by rfl, ?hy12n13⟩) (by assumption) ?rest12n13; (case hy12n13 => (intro w hSw; (try dsimp only at hSw); go_simp; (try with_reducible rfl))); (try simp only [Act.put, List.setIfInBounds_toArray, List.set_cons_zero, List.set_cons_succ]))
        (refine wpAnyH_take (i := 13) (v := ?v13n14) (by simp only [List.getElem?_toArray, List.getElem?_cons_succ, List.getElem?_cons_zero]; rfl) (by kernel_rfl) (by kernel_rfl) (by kernel_rfl) (fun _ _ _ h => False.elim h) (Or.inl ⟨by rfl, ?hy13n14⟩) (by assumption) ?rest13n14; (case hy13n14 => (intro w hSw; (try dsimp only at hSw); go_simp; (try with_reducible rfl))); (try simp only [Act.put, List.setIfInBounds_toArray, List.set_cons_zero, List.set_cons_succ]))
        (refine wpAnyH_take (i := 14) (v := ?v14n15) (by simp only [List.getElem?_toArray, List.getElem?_cons_succ, List.getElem?_cons_zero]; rfl) (by kernel_rfl) (by kernel_rfl) (by kernel_rfl) (fun _ _ _ h => False.elim h) (Or.inl ⟨by rfl, ?hy14n15⟩) (by assumption) ?rest14n15; (case hy14n15 => (intro w hSw; (try dsimp only at hSw); go_simp; (try with_reducible rfl))); (try simp only [Act.put, List.setIfInBounds_toArray, List.set_cons_zero, List.set_cons_succ]))
        (refine wpAnyH_take (i := 15) (v := undef) (by simp only [List.getElem?_toArray, List.getElem?_cons_succ, List.getElem?_cons_zero]; rfl) (by kernel_rfl) (by kernel_rfl) (by kernel_rfl) (fun _ _ _ h => False.elim h) (Or.inr ⟨by rfl, rfl⟩) (by assumption) ?rest15s54; (try simp only [Act.put, List.setIfInBounds_toArray, List.set_cons_zero, List.set_cons_succ]))
        (refine wpAnyH_take (i := 16) (v := undef) (by simp only [List.getElem?_toArray, List.getElem?_cons_succ, List.getElem?_cons_zero]; rfl) (by kernel_rfl) (by kernel_rfl) (by kernel_rfl) (fun _ _ _ h => False.elim h) (Or.inr ⟨by rfl, rfl⟩) (by assumption) ?rest16s55; (try simp only [Act.put, List.setIfInBounds_toArray, List.set_cons_zero, List.set_cons_succ]))
        (refine wpAnyH_take (i := 17) (v := undef) (by simp only [List.getElem?_toArray, List.getElem?_cons_succ, List.getElem?_cons_zero]; rfl) (by kernel_rfl) (by kernel_rfl) (by kernel_rfl) (fun _ _ _ h => False.elim h) (Or.inr ⟨by rfl, rfl⟩) (by assumption) ?rest17s56; (try simp only [Act.put, List.setIfInBounds_toArray, List.set_cons_zero, List.set_cons_succ]))
        (refine wpAnyH_take (i := 18) (v := undef) (by simp only [List.getElem?_toArray, List.getElem?_cons_succ, List.getElem?_cons_zero]; rfl) (by kernel_rfl) (by kernel_rfl) (by kernel_rfl) (fun _ _ _ h => False.elim h) (Or.inr ⟨by rfl, rfl⟩) (by assumption) ?rest18s57; (try simp only [Act.put, List.setIfInBounds_toArray, List.set_cons_zero, List.set_cons_succ]))
        (refine wpAnyH_take (i := 19) (v := undef) (by simp only [List.getElem?_toArray, List.getElem?_cons_succ, List.getElem?_cons_zero]; rfl) (by kernel_rfl) (by kernel_rfl) (by kernel_rfl) (fun _ _ _ h => False.elim h) (Or.inr ⟨by rfl, rfl⟩) (by assumption) ?rest19s58; (try simp only [Act.put, List.setIfInBounds_toArray, List.set_cons_zero, List.set_cons_succ]))
        (refine wpAnyH_take (i := 20) (v := undef) (by simp only [List.getElem?_toArray, List.getElem?_cons_succ, List.getElem?_cons_zero]; rfl) (by kernel_rfl) (by kernel_rfl) (by kernel_rfl) (fun _ _ _ h => False.elim h) (Or.inr ⟨by rfl, rfl⟩) (by assumption) ?rest20s59; (try simp only [Act.put, List.setIfInBounds_toArray, List.set_cons_zero, List.set_cons_succ]))
        (refine wpAnyH_take (i := 21) (v := ?v21n16) (by simp only [List.getElem?_toArray, List.getElem?_cons_succ, List.getElem?_cons_zero]; rfl) (by kernel_rfl) (by kernel_rfl) (by kernel_rfl) (fun _ _ _ h => False.elim h) (Or.inl ⟨by rfl, ?hy21n16⟩) (by assumption) ?rest21n16; (case hy21n16 => (intro w hSw; (try dsimp only at hSw); go_simp; (try with_reducible rfl))); (try simp only [Act.put, List.setIfInBounds_toArray, List.set_cons_zero, List.set_cons_succ]))
        refine wpAnyH_done (by kernel_rfl) ?_ _
        refine NoPanic.normal ?_
        clear hHeld
        have HB1 := Lib.hid n0d
        clear n0d hc
        have m1 := HB1.out.drew
        go_wp2_with fail
        refine wp_region_noPanic ?_
        refine wp_region_held_drew (S := fun W => W.cell? ⟨r, 0, none⟩ = some (.int .i64 (q : Int)) ∧ W.cell? ⟨r, 1, none⟩ = some (.int .i64 (f : Int)) ∧ W.cell? ⟨r, 2, none⟩ = some (.slice aa (n0 + j) cp) ∧ W.cell? ⟨w.heap.size, 0, none⟩ = some (.int .i64 (n : Int)) ∧ W.cell? ⟨w.heap.size, 1, none⟩ = some (.int .i64 (s : Int)) ∧ W.cell? ⟨w.heap.size, 2, none⟩ = some (.int .i64 (o : Int))) (by kernel_rfl) (HSk.out _ m1) (fun hHeld => ?_)
        (refine wpAnyH_take (i := 0) (v := ?v0n17) (by simp only [List.getElem?_toArray, List.getElem?_cons_succ, List.getElem?_cons_zero]; rfl) (by kernel_rfl) (by kernel_rfl) (by kernel_rfl) (fun _ _ _ h => False.elim h) (Or.inl ⟨by rfl, ?hy0n17⟩) (by assumption) ?rest0n17; (case hy0n17 => (intro w hSw; (try dsimp only at hSw); go_simp; (try with_reducible rfl))); (try simp only [Act.put, List.setIfInBounds_toArray, List.set_cons_zero, List.set_cons_succ]))
        (refine wpAnyH_take (i := 1) (v := ?v1n18) (by simp only [List.getElem?_toArray, List.getElem?_cons_succ, List.getElem?_cons_zero]; rfl) (by kernel_rfl) (by kernel_rfl) (by kernel_rfl) (fun _ _ _ h => False.elim h) (Or.inl ⟨by rfl, ?hy1n18⟩) (by assumption) ?rest1n18; (case hy1n18 => (intro w hSw; (try dsimp only at hSw); go_simp; (try with_reducible rfl))); (try simp only [Act.put, List.setIfInBounds_toArray, List.set_cons_zero, List.set_cons_succ]))
        (refine wpAnyH_take (i := 3) (v := ?v3n19) (by simp only [List.getElem?_toArray, List.getElem?_cons_succ, List.getElem?_cons_zero]; rfl) (by kernel_rfl) (by kernel_rfl) (by kernel_rfl) (fun _ _ _ h => False.elim h) (Or.inl ⟨by rfl, ?hy3n19⟩) (by assumption) ?rest3n19; (case hy3n19 => (intro w hSw; (try dsimp only at hSw); go_simp; (try with_reducible rfl))); (try simp only [Act.put, List.setIfInBounds_toArray, List.set_cons_zero, List.set_cons_succ]))
        (refine wpAnyH_take (i := 4) (v := ?v4n20) (by simp only [List.getElem?_toArray, List.getElem?_cons_succ, List.getElem?_cons_zero]; rfl) (by kernel_rfl) (by kernel_rfl) (by kernel_rfl) (fun _ _ _ h => False.elim h) (Or.inl ⟨by rfl, ?hy4n20⟩) (by assumption) ?rest4n20; (case hy4n20 => (intro w hSw; (try dsimp only at hSw); go_simp; (try with_reducible rfl))); (try simp only [Act.put, List.setIfInBounds_toArray, List.set_cons_zero, List.set_cons_succ]))
        (refine wpAnyH_take (i := 5) (v := ?v5n21) (by simp only [List.getElem?_toArray, List.getElem?_cons_succ, List.getElem?_cons_zero]; rfl) (by kernel_rfl) (by kernel_rfl) (by kernel_rfl) (fun _ _ _ h => False.elim h) (Or.inl ⟨by rfl, ?hy5n21⟩) (by assumption) ?rest5n21; (case hy5n21 => (intro w hSw; (try dsimp only at hSw); go_simp; (try with_reducible rfl))); (try simp only [Act.put, List.setIfInBounds_toArray, List.set_cons_zero, List.set_cons_succ]))
        (refine wpAnyH_take (i := 6) (v := ?v6n22) (by simp only [List.getElem?_toArray, List.getElem?_cons_succ, List.getElem?_cons_zero]; rfl) (by kernel_rfl) (by kernel_rfl) (by kernel_rfl) (fun _ _ _ h => False.elim h) (Or.inl ⟨by rfl, ?hy6n22⟩) (by assumption) ?rest6n22; (case hy6n22 => (intro w hSw; (try dsimp only at hSw); go_simp; (try with_reducible rfl))); (try simp only [Act.put, List.setIfInBounds_toArray, List.set_cons_zero, List.set_cons_succ]))
        (refine wpAnyH_ready (rs := [2]) (by kernel_rfl) (by simp) ?_; refine AllReadyH.cons (o := _) (by simp only [List.getElem?_toArray, List.getElem?_cons_succ, List.getElem?_cons_zero]; rfl) (fun K hK => ?_) AllReadyH.nil; go_simp; ((with_reducible refine (HHl.out _ _ (HRC.out.1.below m1)).mono ?_); rintro e w5 ⟨rfl, hb5⟩; have m2 := m1.trans (hb5.mono m1.size)); refine hK.out _ _ (by exact HSk.out _ m2) (fun hHeld => ?_); clear hK K; (try simp only [Act.put, List.setIfInBounds_toArray, List.set_cons_zero, List.set_cons_succ]))
        (refine wpAnyH_take (i := 7) (v := ?v7n23) (by simp only [List.getElem?_toArray, List.getElem?_cons_succ, List.getElem?_cons_zero]; rfl) (by kernel_rfl) (by kernel_rfl) (by kernel_rfl) (fun _ _ _ h => False.elim h) (Or.inl ⟨by rfl, ?hy7n23⟩) (by assumption) ?rest7n23; (case hy7n23 => (intro w hSw; (try dsimp only at hSw); go_simp; (try with_reducible rfl))); (try simp only [Act.put, List.setIfInBounds_toArray, List.set_cons_zero, List.set_cons_succ]))
        refine wpAnyH_done (by kernel_rfl) ?_ _
        refine NoPanic.normal ?_
        clear hHeld
        have HB5 := Lib.hid m2
        have hon := HOn.out
        clear m1 m2 hb5 HB1
        by_cases hq : q ≤ H
        · have hd1 : decide ((q : Int) ≤ (H : Int)) = true := decide_eq_true (by omega)
          have hd1n : decide (q ≤ H) = true := decide_eq_true hq
          have hFe : F (n0 + j) = 14 := by rw [hon]; simp [hq]
          have HFe := Lib.hid hFe
          clear hon hFe
          go_wp2_with fail
          go_ret2
          have hps := psh_fail hjN HZj.out (by rw [HFe.out]; decide)
          rw [HFe.out] at hps
          rw [hps]
          exact ⟨rfl, HFin.out _ j _ (HRC.out.1.below HB5.out) (HRC.out.2.1.below HB5.out) HRC.out.2.2⟩
        · have hd1 : decide ((q : Int) ≤ (H : Int)) = false := decide_eq_false (by omega)
          have hd1n : decide (q ≤ H) = false := decide_eq_false hq
          have m3 := HB5.out.drew
          go_wp2_with fail
          refine wp_region_noPanic ?_
          refine wp_region_held_drew (S := fun W => W.cell? ⟨r, 0, none⟩ = some (.int .i64 (q : Int)) ∧ W.cell? ⟨r, 1, none⟩ = some (.int .i64 (f : Int)) ∧ W.cell? ⟨r, 2, none⟩ = some (.slice aa (n0 + j) cp) ∧ W.cell? ⟨w.heap.size, 0, none⟩ = some (.int .i64 (n : Int)) ∧ W.cell? ⟨w.heap.size, 1, none⟩ = some (.int .i64 (s : Int)) ∧ W.cell? ⟨w.heap.size, 2, none⟩ = some (.int .i64 (o : Int))) (by kernel_rfl) (HSk.out _ m3) (fun hHeld => ?_)
          (refine wpAnyH_take (i := 0) (v := ?v0n24) (by simp only [List.getElem?_toArray, List.getElem?_cons_succ, List.getElem?_cons_zero]; rfl) (by kernel_rfl) (by kernel_rfl) (by kernel_rfl) (fun _ _ _ h => False.elim h) (Or.inl ⟨by rfl, ?hy0n24⟩) (by assumption) ?rest0n24; (case hy0n24 => (intro w hSw; (try dsimp only at hSw); go_simp; (try with_reducible rfl))); (try simp only [Act.put, List.setIfInBounds_toArray, List.set_cons_zero, List.set_cons_succ]))
          (refine wpAnyH_take (i := 1) (v := ?v1n25) (by simp only [List.getElem?_toArray, List.getElem?_cons_succ, List.getElem?_cons_zero]; rfl) (by kernel_rfl) (by kernel_rfl) (by kernel_rfl) (fun _ _ _ h => False.elim h) (Or.inl ⟨by rfl, ?hy1n25⟩) (by assumption) ?rest1n25; (case hy1n25 => (intro w hSw; (try dsimp only at hSw); go_simp; (try with_reducible rfl))); (try simp only [Act.put, List.setIfInBounds_toArray, List.set_cons_zero, List.set_cons_succ]))
          (refine wpAnyH_take (i := 3) (v := ?v3n26) (by simp only [List.getElem?_toArray, List.getElem?_cons_succ, List.getElem?_cons_zero]; rfl) (by kernel_rfl) (by kernel_rfl) (by kernel_rfl) (fun _ _ _ h => False.elim h) (Or.inl ⟨by rfl, ?hy3n26⟩) (by assumption) ?rest3n26; (case hy3n26 => (intro w hSw; (try dsimp only at hSw); go_simp; (try with_reducible rfl))); (try simp only [Act.put, List.setIfInBounds_toArray, List.set_cons_zero, List.set_cons_succ]))
          (refine wpAnyH_take (i := 4) (v := ?v4n27) (by simp only [List.getElem?_toArray, List.getElem?_cons_succ, List.getElem?_cons_zero]; rfl) (by kernel_rfl) (by kernel_rfl) (by kernel_rfl) (fun _ _ _ h => False.elim h) (Or.inl ⟨by rfl, ?hy4n27⟩) (by assumption) ?rest4n27; (case hy4n27 => (intro w hSw; (try dsimp only at hSw); go_simp; (try with_reducible rfl))); (try simp only [Act.put, List.setIfInBounds_toArray, List.set_cons_zero, List.set_cons_succ]))
          (refine wpAnyH_take (i := 6) (v := ?v6n28) (by simp only [List.getElem?_toArray, List.getElem?_cons_succ, List.getElem?_cons_zero]; rfl) (by kernel_rfl) (by kernel_rfl) (by kernel_rfl) (fun _ _ _ h => False.elim h) (Or.inl ⟨by rfl, ?hy6n28⟩) (by assumption) ?rest6n28; (case hy6n28 => (intro w hSw; (try dsimp only at hSw); go_simp; (try with_reducible rfl))); (try simp only [Act.put, List.setIfInBounds_toArray, List.set_cons_zero, List.set_cons_succ]))
          (refine wpAnyH_take (i := 7) (v := ?v7n29) (by simp only [List.getElem?_toArray, List.getElem?_cons_succ, List.getElem?_cons_zero]; rfl) (by kernel_rfl) (by kernel_rfl) (by kernel_rfl) (fun _ _ _ h => False.elim h) (Or.inl ⟨by rfl, ?hy7n29⟩) (by assumption) ?rest7n29; (case hy7n29 => (intro w hSw; (try dsimp only at hSw); go_simp; (try with_reducible rfl))); (try simp only [Act.put, List.setIfInBounds_toArray, List.set_cons_zero, List.set_cons_succ]))
          (refine wpAnyH_ready (rs := [2]) (by kernel_rfl) (by simp) ?_; refine AllReadyH.cons (o := _) (by simp only [List.getElem?_toArray, List.getElem?_cons_succ, List.getElem?_cons_zero]; rfl) (fun K hK => ?_) AllReadyH.nil; go_simp; ((with_reducible refine (HHl.out _ _ (HRC.out.1.below m3)).mono ?_); rintro e w6 ⟨rfl, hb6⟩; have m4 := m3.trans (hb6.mono m3.size)); refine hK.out _ _ (by exact HSk.out _ m4) (fun hHeld => ?_); clear hK K; (try simp only [Act.put, List.setIfInBounds_toArray, List.set_cons_zero, List.set_cons_succ]))
          (refine wpAnyH_take (i := 5) (v := ?v5n30) (by simp only [List.getElem?_toArray, List.getElem?_cons_succ, List.getElem?_cons_zero]; rfl) (by kernel_rfl) (by kernel_rfl) (by kernel_rfl) (fun _ _ _ h => False.elim h) (Or.inl ⟨by rfl, ?hy5n30⟩) (by assumption) ?rest5n30; (case hy5n30 => (intro w hSw; (try dsimp only at hSw); go_simp; (try with_reducible rfl))); (try simp only [Act.put, List.setIfInBounds_toArray, List.set_cons_zero, List.set_cons_succ]))
          (refine wpAnyH_take (i := 8) (v := ?v8n31) (by simp only [List.getElem?_toArray, List.getElem?_cons_succ, List.getElem?_cons_zero]; rfl) (by kernel_rfl) (by kernel_rfl) (by kernel_rfl) (fun _ _ _ h => False.elim h) (Or.inl ⟨by rfl, ?hy8n31⟩) (by assumption) ?rest8n31; (case hy8n31 => (intro w hSw; (try dsimp only at hSw); go_simp; (try with_reducible rfl))); (try simp only [Act.put, List.setIfInBounds_toArray, List.set_cons_zero, List.set_cons_succ]))
          refine wpAnyH_done (by kernel_rfl) ?_ _
          refine NoPanic.normal ?_
          clear hHeld
          have HB7 := Lib.hid m4
          clear m3 m4 hb6 HB5
          by_cases hno2 : n ≤ H + o
          · have hd2 : decide ((n : Int) ≤ (H : Int) + (o : Int)) = true := decide_eq_true (by omega)
            have hd2n : decide (n ≤ H + o) = true := decide_eq_true hno2
            have hFe : F (n0 + j) = 13 := by rw [hon]; simp [hq, hno2]
            have HFe := Lib.hid hFe
            clear hon hFe
            go_wp2_with fail
            go_ret2
            have hps := psh_fail hjN HZj.out (by rw [HFe.out]; decide)
            rw [HFe.out] at hps
            rw [hps]
            exact ⟨rfl, HFin.out _ j _ (HRC.out.1.below HB7.out) (HRC.out.2.1.below HB7.out) HRC.out.2.2⟩
          · have hd2 : decide ((n : Int) ≤ (H : Int) + (o : Int)) = false := decide_eq_false (by omega)
            have hd2n : decide (n ≤ H + o) = false := decide_eq_false hno2
            have hFe : F (n0 + j) = 0 := by rw [hon]; simp [hq, hno2]
            have HE0 := Lib.hid hFe
            have hB7 := HB7.out
            generalize w6 = W7 at *
            clear hon hFe HB7
            obtain ⟨hRC, hM, hF⟩ := HRC.out
            obtain ⟨a1, c1, w1, g, c2, w2, r1, r2, ⟨x1, x2, x3, x4⟩, S4, y1, y2, y3⟩ := HNxt.out W7 S' (hRC.below hB7) (hM.below hB7) hF aa cp (HRa.out.1.keep hB7) HRa.out.2
            have p2 := (HSk.out _ hB7).2.2.1
            have p2a := (((Below.refl W7.heap.size W7).alloc (Nat.le_refl _) (.cells #[] 5)).cell (lt_of_cell p2)).trans p2
            rw [p2] at x1
            have hE0 : F (n0 + j) = 0 := HE0.out
            have H9 := Lib.hid (And.intro y1 (And.intro y2 (And.intro y3 hE0)))
            clear y1 y2 y3 hE0 hRC hM hF hB7 HNxt HRa HHl HE0 HSk HQ HCl HNx HHd HRd
            go_wp2_with (first | (at_builtin; (with_reducible apply wpList_append_run r1); rfl; rfl; rfl; rfl; rfl) | (at_builtin; (with_reducible apply wpList_append_run r2); rfl; rfl; rfl; rfl; rfl))
            go_roundw
            case rel => first | exact ⟨j + 1, by omega, by go_num, fun i hi => by
              rcases Nat.lt_or_ge i j with h | h
              · exact HZj.out i h
              · obtain rfl : i = j := by omega
                exact H9.out.2.2.2, S4, H9.out.1, H9.out.2.1, H9.out.2.2.1⟩ | ((repeat apply Exists.intro); refine ⟨?r, ?f⟩; (case f => (and_intros <;> rfl)); exact ⟨j + 1, by omega, by go_num, fun i hi => by
              rcases Nat.lt_or_ge i j with h | h
              · exact HZj.out i h
              · obtain rfl : i = j := by omega
                exact H9.out.2.2.2, S4, H9.out.1, H9.out.2.1, H9.out.2.2.1⟩)
            case measure => simp [cj]; omega
      · have hrb : (((rm : Nat) : Int) == 0) = false := by simp; omega
        have hFe : F (n0 + j) = 0 := by have h1 := HOn.out; rw [if_neg hrm] at h1; exact h1
        have HE0 := Lib.hid hFe
        have hlb : (((n0 : Int) + (j : Int)) == 0) = false := by
          have h1 := HNz.out hrm
          simp
          omega
        have hlb2 : ((((n0 + j : Nat) : Int)) == 0) = false := by
          have h1 := HNz.out hrm
          simp
          omega
        clear hFe
        have hsk : ∀ W, Below wr.heap.size wr W → W.cell? ⟨r, 0, none⟩ = some (.int .i64 (q : Int)) ∧ W.cell? ⟨r, 1, none⟩ = some (.int .i64 (f : Int)) ∧ W.cell? ⟨r, 2, none⟩ = some (.slice aa (n0 + j) cp) ∧ W.cell? ⟨w.heap.size, 0, none⟩ = some (.int .i64 (n : Int)) ∧ W.cell? ⟨w.heap.size, 1, none⟩ = some (.int .i64 (s : Int)) ∧ W.cell? ⟨w.heap.size, 2, none⟩ = some (.int .i64 (o : Int)) := fun W hb => ⟨(hb.cell (lt_of_cell HQ.out.1)).trans HQ.out.1, (hb.cell (lt_of_cell HQ.out.2.1)).trans HQ.out.2.1, (hb.cell (lt_of_cell HQ.out.2.2.1)).trans HQ.out.2.2.1, (hb.cell (lt_of_cell HQ.out.2.2.2.1)).trans HQ.out.2.2.2.1, (hb.cell (lt_of_cell HQ.out.2.2.2.2.1)).trans HQ.out.2.2.2.2.1, (hb.cell (lt_of_cell HQ.out.2.2.2.2.2)).trans HQ.out.2.2.2.2.2⟩
        have HSk := Lib.hid hsk
        have n0d : Below wr.heap.size wr wr.drew := (Below.refl _ _).drew
        clear hsk q0 q1 q2 b0 b1 b2
        go_wp2_with fail
        refine wp_region_noPanic ?_
        refine wp_region_held_drew (S := fun W => W.cell? ⟨r, 0, none⟩ = some (.int .i64 (q : Int)) ∧ W.cell? ⟨r, 1, none⟩ = some (.int .i64 (f : Int)) ∧ W.cell? ⟨r, 2, none⟩ = some (.slice aa (n0 + j) cp) ∧ W.cell? ⟨w.heap.size, 0, none⟩ = some (.int .i64 (n : Int)) ∧ W.cell? ⟨w.heap.size, 1, none⟩ = some (.int .i64 (s : Int)) ∧ W.cell? ⟨w.heap.size, 2, none⟩ = some (.int .i64 (o : Int))) (by kernel_rfl) (HSk.out _ n0d) (fun hHeld => ?_)
        (refine wpAnyH_take (i := 0) (v := ?v0n32) (by simp only [List.getElem?_toArray, List.getElem?_cons_succ, List.getElem?_cons_zero]; rfl) (by kernel_rfl) (by kernel_rfl) (by kernel_rfl) (fun _ _ _ h => False.elim h) (Or.inl ⟨by rfl, ?hy0n32⟩) (by assumption) ?rest0n32; (case hy0n32 => (intro w hSw; (try dsimp only at hSw); go_simp; (try with_reducible rfl))); (try simp only [Act.put, List.setIfInBounds_toArray, List.set_cons_zero, List.set_cons_succ]))
        (refine wpAnyH_take (i := 1) (v := ?v1n33) (by simp only [List.getElem?_toArray, List.getElem?_cons_succ, List.getElem?_cons_zero]; rfl) (by kernel_rfl) (by kernel_rfl) (by kernel_rfl) (fun _ _ _ h => False.elim h) (Or.inl ⟨by rfl, ?hy1n33⟩) (by assumption) ?rest1n33; (case hy1n33 => (intro w hSw; (try dsimp only at hSw); go_simp; (try with_reducible rfl))); (try simp only [Act.put, List.setIfInBounds_toArray, List.set_cons_zero, List.set_cons_succ]))
        (refine wpAnyH_take (i := 2) (v := ?v2n34) (by simp only [List.getElem?_toArray, List.getElem?_cons_succ, List.getElem?_cons_zero]; rfl) (by kernel_rfl) (by kernel_rfl) (by kernel_rfl) (fun _ _ _ h => False.elim h) (Or.inl ⟨by rfl, ?hy2n34⟩) (by assumption) ?rest2n34; (case hy2n34 => (intro w hSw; (try dsimp only at hSw); go_simp; (try with_reducible rfl))); (try simp only [Act.put, List.setIfInBounds_toArray, List.set_cons_zero, List.set_cons_succ]))
        (refine wpAnyH_take (i := 3) (v := ?v3n35) (by simp only [List.getElem?_toArray, List.getElem?_cons_succ, List.getElem?_cons_zero]; rfl) (by kernel_rfl) (by kernel_rfl) (by kernel_rfl) (fun _ _ _ h => False.elim h) (Or.inl ⟨by rfl, ?hy3n35⟩) (by assumption) ?rest3n35; (case hy3n35 => (intro w hSw; (try dsimp only at hSw); go_simp; (try with_reducible rfl))); (try simp only [Act.put, List.setIfInBounds_toArray, List.set_cons_zero, List.set_cons_succ]))
        (refine wpAnyH_take (i := 4) (v := ?v4n36) (by simp only [List.getElem?_toArray, List.getElem?_cons_succ, List.getElem?_cons_zero]; rfl) (by kernel_rfl) (by kernel_rfl) (by kernel_rfl) (fun _ _ _ h => False.elim h) (Or.inl ⟨by rfl, ?hy4n36⟩) (by assumption) ?rest4n36; (case hy4n36 => (intro w hSw; (try dsimp only at hSw); go_simp; (try with_reducible rfl))); (try simp only [Act.put, List.setIfInBounds_toArray, List.set_cons_zero, List.set_cons_succ]))
        (refine wpAnyH_take (i := 5) (v := ?v5n37) (by simp only [List.getElem?_toArray, List.getElem?_cons_succ, List.getElem?_cons_zero]; rfl) (by kernel_rfl) (by kernel_rfl) (by kernel_rfl) (fun _ _ _ h => False.elim h) (Or.inl ⟨by rfl, ?hy5n37⟩) (by assumption) ?rest5n37; (case hy5n37 => (intro w hSw; (try dsimp only at hSw); go_simp; (try with_reducible rfl))); (try simp only [Act.put, List.setIfInBounds_toArray, List.set_cons_zero, List.set_cons_succ]))
        (refine wpAnyH_take (i := 6) (v := ?v6n38) (by simp only [List.getElem?_toArray, List.getElem?_cons_succ, List.getElem?_cons_zero]; rfl) (by kernel_rfl) (by kernel_rfl) (by kernel_rfl) (fun _ _ _ h => False.elim h) (Or.inl ⟨by rfl, ?hy6n38⟩) (by assumption) ?rest6n38; (case hy6n38 => (intro w hSw; (try dsimp only at hSw); go_simp; (try with_reducible rfl))); (try simp only [Act.put, List.setIfInBounds_toArray, List.set_cons_zero, List.set_cons_succ]))
        (refine wpAnyH_take (i := 7) (v := ?v7n39) (by simp only [List.getElem?_toArray, List.getElem?_cons_succ, List.getElem?_cons_zero]; rfl) (by kernel_rfl) (by kernel_rfl) (by kernel_rfl) (fun _ _ _ h => False.elim h) (Or.inl ⟨by rfl, ?hy7n39⟩) (by assumption) ?rest7n39; (case hy7n39 => (intro w hSw; (try dsimp only at hSw); go_simp; (try with_reducible rfl))); (try simp only [Act.put, List.setIfInBounds_toArray, List.set_cons_zero, List.set_cons_succ]))
        (refine wpAnyH_take (i := 8) (v := ?v8n40) (by simp only [List.getElem?_toArray, List.getElem?_cons_succ, List.getElem?_cons_zero]; rfl) (by kernel_rfl) (by kernel_rfl) (by kernel_rfl) (fun _ _ _ h => False.elim h) (Or.inl ⟨by rfl, ?hy8n40⟩) (by assumption) ?rest8n40; (case hy8n40 => (intro w hSw; (try dsimp only at hSw); go_simp; (try with_reducible rfl))); (try simp only [Act.put, List.setIfInBounds_toArray, List.set_cons_zero, List.set_cons_succ]))
        (refine wpAnyH_take (i := 9) (v := ?v9n41) (by simp only [List.getElem?_toArray, List.getElem?_cons_succ, List.getElem?_cons_zero]; rfl) (by kernel_rfl) (by kernel_rfl) (by kernel_rfl) (fun _ _ _ h => False.elim h) (Or.inl ⟨by rfl, ?hy9n41⟩) (by assumption) ?rest9n41; (case hy9n41 => (intro w hSw; (try dsimp only at hSw); go_simp; (try with_reducible rfl))); (try simp only [Act.put, List.setIfInBounds_toArray, List.set_cons_zero, List.set_cons_succ]))
        (refine wpAnyH_take (i := 10) (v := ?v10n42) (by simp only [List.getElem?_toArray, List.getElem?_cons_succ, List.getElem?_cons_zero]; rfl) (by kernel_rfl) (by kernel_rfl) (by kernel_rfl) (fun _ _ _ h => False.elim h) (Or.inl ⟨by rfl, ?hy10n42⟩) (by assumption) ?rest10n42; (case hy10n42 => (intro w hSw; (try dsimp only at hSw); go_simp; (try with_reducible rfl))); (try simp only [Act.put, List.setIfInBounds_toArray, List.set_cons_zero, List.set_cons_succ]))
        (refine wpAnyH_take (i := 11) (v := ?v11n43) (by simp only [List.getElem?_toArray, List.getElem?_cons_succ, List.getElem?_cons_zero]; rfl) (by kernel_rfl) (by kernel_rfl) (by kernel_rfl) (fun _ _ _ h => False.elim h) (Or.inl ⟨by rfl, ?hy11n43⟩) (by assumption) ?rest11n43; (case hy11n43 => (intro w hSw; (try dsimp only at hSw); go_simp; (try with_reducible rfl))); (try simp only [Act.put, List.setIfInBounds_toArray, List.set_cons_zero, List.set_cons_succ]))
        (refine wpAnyH_take (i := 12) (v := ?v12n44) (by simp only [List.getElem?_toArray, List.getElem?_cons_succ, List.getElem?_cons_zero]; rfl) (by kernel_rfl) (by kernel_rfl) (by kernel_rfl) (fun _ _ _ h => False.elim h) (Or.inl ⟨by rfl, ?hy12n44⟩) (by assumption) ?rest12n44; (case hy12n44 => (intro w hSw; (try dsimp only at hSw); go_simp; (try with_reducible rfl))); (try simp only [Act.put, List.setIfInBounds_toArray, List.set_cons_zero, List.set_cons_succ]))
        (refine wpAnyH_take (i := 13) (v := ?v13n45) (by simp only [List.getElem?_toArray, List.getElem?_cons_succ, List.getElem?_cons_zero]; rfl) (by kernel_rfl) (by kernel_rfl) (by kernel_rfl) (fun _ _ _ h => False.elim h) (Or.inl ⟨by rfl, ?hy13n45⟩) (by assumption) ?rest13n45; (case hy13n45 => (intro w hSw; (try dsimp only at hSw); go_simp; (try with_reducible rfl))); (try simp only [Act.put, List.setIfInBounds_toArray, List.set_cons_zero, List.set_cons_succ]))
        (refine wpAnyH_take (i := 14) (v := ?v14n46) (by simp only [List.getElem?_toArray, List.getElem?_cons_succ, List.getElem?_cons_zero]; rfl) (by kernel_rfl) (by kernel_rfl) (by kernel_rfl) (fun _ _ _ h => False.elim h) (Or.inl ⟨by rfl, ?hy14n46⟩) (by assumption) ?rest14n46; (case hy14n46 => (intro w hSw; (try dsimp only at hSw); go_simp; (try with_reducible rfl))); (try simp only [Act.put, List.setIfInBounds_toArray, List.set_cons_zero, List.set_cons_succ]))
        (refine wpAnyH_take (i := 15) (v := ?v15n47) (by simp only [List.getElem?_toArray, List.getElem?_cons_succ, List.getElem?_cons_zero]; rfl) (by kernel_rfl) (by kernel_rfl) (by kernel_rfl) (fun _ _ _ h => False.elim h) (Or.inl ⟨by rfl, ?hy15n47⟩) (by assumption) ?rest15n47; (case hy15n47 => (intro w hSw; (try dsimp only at hSw); go_simp; (try with_reducible rfl))); (try simp only [Act.put, List.setIfInBounds_toArray, List.set_cons_zero, List.set_cons_succ]))
        (refine wpAnyH_take (i := 16) (v := ?v16n48) (by simp only [List.getElem?_toArray, List.getElem?_cons_succ, List.getElem?_cons_zero]; rfl) (by kernel_rfl) (by kernel_rfl) (by kernel_rfl) (fun _ _ _ h => False.elim h) (Or.inl ⟨by rfl, ?hy16n48⟩) (by assumption) ?rest16n48; (case hy16n48 => (intro w hSw; (try dsimp only at hSw); go_simp; (try with_reducible rfl))); (try simp only [Act.put, List.setIfInBounds_toArray, List.set_cons_zero, List.set_cons_succ]))
        (refine wpAnyH_take (i := 17) (v := ?v17n49) (by simp only [List.getElem?_toArray, List.getElem?_cons_succ, List.getElem?_cons_zero]; rfl) (by kernel_rfl) (by kernel_rfl) (by kernel_rfl) (fun _ _ _ h => False.elim h) (Or.inl ⟨by rfl, ?hy17n49⟩) (by assumption) ?rest17n49; (case hy17n49 => (intro w hSw; (try dsimp only at hSw); go_simp; (try with_reducible rfl))); (try simp only [Act.put, List.setIfInBounds_toArray, List.set_cons_zero, List.set_cons_succ]))
        (refine wpAnyH_take (i := 18) (v := ?v18n50) (by simp only [List.getElem?_toArray, List.getElem?_cons_succ, List.getElem?_cons_zero]; rfl) (by kernel_rfl) (by kernel_rfl) (by kernel_rfl) (fun _ _ _ h => False.elim h) (Or.inl ⟨by rfl, ?hy18n50⟩) (by assumption) ?rest18n50; (case hy18n50 => (intro w hSw; (try dsimp only at hSw); go_simp; (try with_reducible rfl))); (try simp only [Act.put, List.setIfInBounds_toArray, List.set_cons_zero, List.set_cons_succ]))
        (refine wpAnyH_take (i := 19) (v := ?v19n51) (by simp only [List.getElem?_toArray, List.getElem?_cons_succ, List.getElem?_cons_zero]; rfl) (by kernel_rfl) (by kernel_rfl) (by kernel_rfl) (fun _ _ _ h => False.elim h) (Or.inl ⟨by rfl, ?hy19n51⟩) (by assumption) ?rest19n51; (case hy19n51 => (intro w hSw; (try dsimp only at hSw); go_simp; (try with_reducible rfl))); (try simp only [Act.put, List.setIfInBounds_toArray, List.set_cons_zero, List.set_cons_succ]))
        (refine wpAnyH_take (i := 20) (v := ?v20n52) (by simp only [List.getElem?_toArray, List.getElem?_cons_succ, List.getElem?_cons_zero]; rfl) (by kernel_rfl) (by kernel_rfl) (by kernel_rfl) (fun _ _ _ h => False.elim h) (Or.inl ⟨by rfl, ?hy20n52⟩) (by assumption) ?rest20n52; (case hy20n52 => (intro w hSw; (try dsimp only at hSw); go_simp; (try with_reducible rfl))); (try simp only [Act.put, List.setIfInBounds_toArray, List.set_cons_zero, List.set_cons_succ]))
        (refine wpAnyH_take (i := 21) (v := ?v21n53) (by simp only [List.getElem?_toArray, List.getElem?_cons_succ, List.getElem?_cons_zero]; rfl) (by kernel_rfl) (by kernel_rfl) (by kernel_rfl) (fun _ _ _ h => False.elim h) (Or.inl ⟨by rfl, ?hy21n53⟩) (by assumption) ?rest21n53; (case hy21n53 => (intro w hSw; (try dsimp only at hSw); go_simp; (try with_reducible rfl))); (try simp only [Act.put, List.setIfInBounds_toArray, List.set_cons_zero, List.set_cons_succ]))
        refine wpAnyH_done (by kernel_rfl) ?_ _
        refine NoPanic.normal ?_
        clear hHeld
        have hB7 := n0d
        obtain ⟨W7, hW7⟩ : ∃ W7, wr.drew = W7 := ⟨_, rfl⟩
        rw [hW7] at hB7 ⊢
        clear n0d hc hW7
        obtain ⟨hRC, hM, hF⟩ := HRC.out
        obtain ⟨a1, c1, w1, g, c2, w2, r1, r2, ⟨x1, x2, x3, x4⟩, S4, y1, y2, y3⟩ := HNxt.out W7 S' (hRC.below hB7) (hM.below hB7) hF aa cp (HRa.out.1.keep hB7) HRa.out.2
        have p2 := (HSk.out _ hB7).2.2.1
        have p2a := (((Below.refl W7.heap.size W7).alloc (Nat.le_refl _) (.cells #[] 5)).cell (lt_of_cell p2)).trans p2
        rw [p2] at x1
        have hE0 : F (n0 + j) = 0 := HE0.out
        have H9 := Lib.hid (And.intro y1 (And.intro y2 (And.intro y3 hE0)))
        clear y1 y2 y3 hE0 hRC hM hF hB7 HNxt HRa HHl HE0 HSk HQ HCl HNx HHd HRd
        go_wp2_with (first | (at_builtin; (with_reducible apply wpList_append_run r1); rfl; rfl; rfl; rfl; rfl) | (at_builtin; (with_reducible apply wpList_append_run r2); rfl; rfl; rfl; rfl; rfl))
        go_roundw
        case rel => first | exact ⟨j + 1, by omega, by go_num, fun i hi => by
          rcases Nat.lt_or_ge i j with h | h
          · exact HZj.out i h
          · obtain rfl : i = j := by omega
            exact H9.out.2.2.2, S4, H9.out.1, H9.out.2.1, H9.out.2.2.1⟩ | ((repeat apply Exists.intro); refine ⟨?r, ?f⟩; (case f => (and_intros <;> rfl)); exact ⟨j + 1, by omega, by go_num, fun i hi => by
          rcases Nat.lt_or_ge i j with h | h
          · exact HZj.out i h
          · obtain rfl : i = j := by omega
            exact H9.out.2.2.2, S4, H9.out.1, H9.out.2.1, H9.out.2.2.1⟩)
        case measure => simp [cj]; omega
    · obtain rfl : j = N := by omega
      have HZ := Lib.hid (psh_all hzj)
      have HF := Lib.hid (HFin.out _ j _ hRC hM hF)
      clear hzj hRC hM hF
      go_wp2
      go_ret2
      rw [HZ.out]
      exact ⟨rfl, HF.out⟩
end Ch
end Go.Proofs.YtpjimmdpcpcmoaaDoor

