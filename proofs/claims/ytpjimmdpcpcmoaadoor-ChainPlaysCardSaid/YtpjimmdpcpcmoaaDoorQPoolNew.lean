import Derived.Test.YtpjimmdpcpcmoaaDoorQPoolGive
import Derived.Test.YtpjimmdpcpcmoaaDoorQApp
/- The walks of package pool: New. Condition: the sentinels read as laid. -/
namespace Go.Proofs.YtpjimmdpcpcmoaaDoor
open Go Go.RowKit Kt
namespace Po
variable {w w' : World} {p ob oc bb mz mg mb : Nat} {A : List (Int × Int × Nat)} {G : List (Option Nat)} {m : Md} {L : List Nat}
set_option maxRecDepth 100000 in
set_option maxHeartbeats 1000000 in
theorem new_no (E : Nat → Addr) (n s : Int) (w : World) (hs : Sent 169 w E Er.egs) (he : n < 1 ∨ 256 < n ∨ s < 1 ∨ 64 < s) :
    Calls Tryd.prog 10 #[.int .i64 n, .int .i64 s] w fun e w' => e = .returned (.tuple #[.pointer none, ee E 1]) ∧ Below w.heap.size w w' := by
  have g1 : w.cell? ⟨0, 0, none⟩ = some (ee E 1) := sentc hs 1 (by decide) (by decide)
  obtain ⟨e1, h1⟩ : ∃ v, ee E 1 = v := ⟨_, rfl⟩
  rw [h1] at g1 ⊢
  clear hs h1
  rcases Decidable.em (n < 1) with r1 | r1
  · clear he
    go_enter Tryd.func10, Tryd.ntmps10
    go_wp2
    go_quiet (fail)
    go_wp2
    go_ret2
    exact ⟨rfl, below_drewN (Below.refl _ _) _⟩
  · rcases Decidable.em (256 < n) with r2 | r2
    · clear he
      go_enter Tryd.func10, Tryd.ntmps10
      go_wp2
      go_quiet (fail)
      go_wp2
      go_ret2
      exact ⟨rfl, below_drewN (Below.refl _ _) _⟩
    · rcases Decidable.em (s < 1) with r3 | r3
      · clear he
        go_enter Tryd.func10, Tryd.ntmps10
        go_wp2
        go_quiet (fail)
        go_wp2
        go_ret2
        exact ⟨rfl, below_drewN (Below.refl _ _) _⟩
      · have r4 : 64 < s := by omega
        clear he
        go_enter Tryd.func10, Tryd.ntmps10
        go_wp2
        go_quiet (fail)
        go_wp2
        go_ret2
        exact ⟨rfl, below_drewN (Below.refl _ _) _⟩
/-- An int's number. -/
def iv : Value → Int
  | .int _ a => a
  | _ => 0
/-- Where New's loop stands. -/
structure Nw (w W0 W : World) (p bb mz mg mb n s k : Nat) : Prop where
  v : ∃ v, W.heap[p]? = some (.cells #[.slice (some ⟨bb, 0, none⟩) n n, v, .pointer (some ⟨mz, 0, none⟩), .map (some mb), .int .i64 (s : Int), .int .i64 0] 96 (0, 0)) ∧ W.ownsRow W0.heap.size 3 1 v k (i64s (List.replicate k (-1)))
  hb : Rx W bb 54 n (List.replicate n (.slice none 0 0))
  hm : Mk.MI W mz mg (List.replicate k true ++ List.replicate (n - k) false)
  hM : MapP Tryd.prog 3 W mb 0 []
  B : Below w.heap.size w W
  Z : W0.heap.size ≤ W.heap.size
/-- A pool's blocks at New. -/
structure Ds (w W0 : World) (p bb mz mg mb : Nat) : Prop where
  nd : [p, bb, mz, mg, mb].Nodup
  lt : ∀ k ∈ [p, bb, mz, mg, mb], k < W0.heap.size ∧ w.heap.size ≤ k
theorem made_nil (z : Nat) : madeCells #[Value.slice none 0 0] z = (List.replicate z (Value.slice none 0 0)).toArray := by
  apply Array.toList_inj.1
  rw [toList_madeCells_one]
theorem set_next (n k : Nat) (hk : k < n) : (List.replicate k true ++ List.replicate (n - k) false).set k true = List.replicate (k + 1) true ++ List.replicate (n - (k + 1)) false := by
  rw [List.set_append_right _ _ (by simp), List.length_replicate, Nat.sub_self, show n - k = (n - (k + 1)) + 1 by omega, List.replicate_succ, List.set_cons_zero, List.replicate_succ' (n := k), List.append_assoc]
  rfl
/-- The state behind New. -/
theorem new_fin {W0 W : World} {n s : Nat} (h1 : 1 ≤ n) (h2 : n ≤ 256) (h3 : 1 ≤ s) (h4 : s ≤ 64) (h : Nw w W0 W p bb mz mg mb n s n) (hd : Ds w W0 p bb mz mg mb) : ∃ L, PI W p L (new n s) ∧ (∀ k ∈ L, w.heap.size ≤ k) := by
  obtain ⟨v, hp, hown⟩ := h.v
  obtain ⟨a, cap, rfl, g1, g2, _, g4⟩ := rd_own hown
  obtain ⟨ob, rfl⟩ : ∃ ob, a = some ⟨ob, 0, none⟩ := by
    rcases hown.2 with ⟨h5, h6⟩ | ⟨g, cap', cur, h5, _⟩
    · omega
    · simp only [Value.slice.injEq] at h5
      exact ⟨g, h5.1⟩
  obtain ⟨ho, _, hob⟩ := Rx.of_own hown
  have hu : used (List.replicate n (-1)) = 0 := by
    unfold used
    rw [List.countP_eq_zero]
    intro o ho
    rw [List.eq_of_mem_replicate ho]
    decide
  have hf : fr (List.replicate n (-1)) = List.replicate n true := by simp [fr]
  have hm := h.hm
  rw [Nat.sub_self, List.replicate_zero, List.append_nil, ← hf] at hm
  have hG : (List.replicate n (none : Option Nat)).map (gv s) = List.replicate n (.slice none 0 0) := by simp [gv]
  have hfm : (List.replicate n (none : Option Nat)).filterMap id = [] := by
    rw [List.filterMap_eq_nil_iff]
    intro o ho
    rw [List.eq_of_mem_replicate ho]
    rfl
  have hlt : w.heap.size ≤ W0.heap.size := by have := hd.lt p (by simp); omega
  have hobn : ∀ k ∈ [p, bb, mz, mg, mb], k ≠ ob := fun k hk e => by have := (hd.lt k hk).1; omega
  refine ⟨_, ⟨⟨ob, cap, bb, mz, mg, mb, [], List.replicate n none, ⟨?_, by simpa [new] using ho, g2, ?_, hm, h.hM, rfl, (fun a ha => by cases ha), by simp [new], (fun i hi => ?_), ?_⟩, rfl⟩, new_ok h1 h2 h3 h4⟩, ?_⟩
  · simp only [new, List.length_replicate, hu]
    exact hp
  · simp only [new, List.length_replicate, hG]
    exact h.hb
  · simp only [new, List.length_replicate] at hi ⊢
    exact .inl ⟨by rw [List.getElem?_replicate, if_pos hi], -1, by rw [List.getElem?_replicate, if_pos hi], by omega⟩
  · rw [hfm]
    have hnd := hd.nd
    simp only [ab, List.map_nil, List.append_nil, List.nodup_cons, List.mem_cons, List.not_mem_nil, or_false, not_or] at hnd ⊢
    have e1 := hobn p (by simp)
    have e2 := hobn bb (by simp)
    have e3 := hobn mz (by simp)
    have e4 := hobn mg (by simp)
    have e5 := hobn mb (by simp)
    exact ⟨⟨e1, hnd.1.1, hnd.1.2.1, hnd.1.2.2.1, hnd.1.2.2.2⟩, ⟨fun e => e2 e.symm, fun e => e3 e.symm, fun e => e4 e.symm, fun e => e5 e.symm⟩, hnd.2.1, hnd.2.2.1, hnd.2.2.2.1, by simp⟩
  · rw [hfm]
    intro k hk
    simp only [ab, List.map_nil, List.append_nil, List.mem_cons, List.not_mem_nil, or_false] at hk
    rcases hk with rfl | rfl | rfl | rfl | rfl | rfl
    · exact (hd.lt _ (by simp)).2
    · omega
    · exact (hd.lt _ (by simp)).2
    · exact (hd.lt _ (by simp)).2
    · exact (hd.lt _ (by simp)).2
    · exact (hd.lt _ (by simp)).2
set_option maxRecDepth 100000 in
set_option maxHeartbeats 2000000 in
theorem new_yes (n s : Nat) (h1 : 1 ≤ n) (h2 : n ≤ 256) (h3 : 1 ≤ s) (h4 : s ≤ 64) (w : World) :
    Calls Tryd.prog 10 #[.int .i64 (n : Int), .int .i64 (s : Int)] w fun e w' => ∃ p L, e = .returned (.tuple #[.pointer (some ⟨p, 0, none⟩), .nilIface]) ∧ PI w' p L (new n s) ∧ (∀ k ∈ L, w.heap.size ≤ k) ∧ Below w.heap.size w w' := by
  have hmk := fun w => run_make_row' (P := Tryd.prog) 55 54 (.slice none 0 0) 24 Tryd.underlying55 (by kernel_rfl) rfl .i64 .i64 n (by omega) (by omega) w
  rw [made_nil] at hmk
  obtain ⟨MM, hMM⟩ : ∃ MM, (List.replicate n (Value.slice none 0 0)).toArray = MM := ⟨_, rfl⟩
  rw [hMM] at hmk
  have HMM := Lib.hid hMM
  have HNew := Lib.hid (fun W => Mk.new_m n (by omega) W)
  have hmm := @run_makeMap Tryd.prog
  clear hMM
  go_enter Tryd.func10, Tryd.ntmps10
  go_wp2_with fail
  with_reducible refine (HNew.out _).mono ?_
  rintro e w1 ⟨mz, mg, rfl, z1, z2, hMI, hb1⟩
  -- the three blocks that New makes
  obtain ⟨WA, hWA⟩ : ∃ WA, w1.alloc (.cells MM 54 (0, 0)) = WA := ⟨_, rfl⟩
  obtain ⟨WB, hWB⟩ : ∃ WB, WA.alloc (.map #[] 0) = WB := ⟨_, rfl⟩
  obtain ⟨WC, hWC⟩ : ∃ WC, WB.alloc (.cells #[.slice (some ⟨w1.heap.size, 0, none⟩) n n, .slice none 0 0, .pointer (some ⟨mz, 0, none⟩), .map (some (w1.heap.size + 1)), .int .i64 (s : Int), .int .i64 0] 96 (0, 0)) = WC := ⟨_, rfl⟩
  have sA : WA.heap.size = w1.heap.size + 1 := by rw [← hWA]; simp
  have sB : WB.heap.size = w1.heap.size + 1 + 1 := by rw [← hWB]; simp [sA]
  have sC : WC.heap.size = w1.heap.size + 1 + 1 + 1 := by rw [← hWC]; simp [sB]
  have bA : Below w1.heap.size w1 WA := by rw [← hWA]; exact (Below.refl _ _).alloc (Nat.le_refl _) _
  have bB : Below WA.heap.size WA WB := by rw [← hWB]; exact (Below.refl _ _).alloc (Nat.le_refl _) _
  have bC : Below WB.heap.size WB WC := by rw [← hWC]; exact (Below.refl _ _).alloc (Nat.le_refl _) _
  have rA : Rx WA w1.heap.size 54 n (List.replicate n (.slice none 0 0)) := by
    have := Rx.new w1 54 (List.replicate n (Value.slice none 0 0))
    rw [HMM.out, hWA, List.length_replicate] at this
    exact this
  have mB : MapP Tryd.prog 3 WB (w1.heap.size + 1) 0 [] := by
    have := MapP.made WA Tryd.prog 3
    rw [hWB, sA] at this
    exact this
  have pC : WC.heap[w1.heap.size + 1 + 1]? = some (.cells #[.slice (some ⟨w1.heap.size, 0, none⟩) n n, .slice none 0 0, .pointer (some ⟨mz, 0, none⟩), .map (some (w1.heap.size + 1)), .int .i64 (s : Int), .int .i64 0] 96 (0, 0)) := by
    have := heap_alloc_new WB (.cells #[.slice (some ⟨w1.heap.size, 0, none⟩) n n, .slice none 0 0, .pointer (some ⟨mz, 0, none⟩), .map (some (w1.heap.size + 1)), .int .i64 (s : Int), .int .i64 0] 96)
    rw [hWC, sB] at this
    exact this
  have bAll : Below w1.heap.size w1 WC := (bA.trans (bB.mono (by omega))).trans (bC.mono (by omega))
  have h0 : Nw w WC WC (w1.heap.size + 1 + 1) w1.heap.size mz mg (w1.heap.size + 1) n s 0 :=
    ⟨⟨_, pC, World.ownsRow_nil _ _ _ _⟩, (rA.below bB).below bC, by simpa using hMI.below bAll, mB.below bC, hb1.trans (bAll.mono hb1.size), Nat.le_refl _⟩
  have hds : Ds w WC (w1.heap.size + 1 + 1) w1.heap.size mz mg (w1.heap.size + 1) := by
    have q1 := hMI.plt
    have q2 := hMI.blt
    have q3 := hMI.ne
    have q4 := hb1.size
    refine ⟨?_, fun k hk => ?_⟩
    · simp only [List.nodup_cons, List.mem_cons, List.not_mem_nil, or_false, not_or, List.nodup_nil, and_true, not_false_eq_true]
      omega
    · simp only [List.mem_cons, List.not_mem_nil, or_false] at hk
      omega
  have H0 := Lib.hid h0
  have HD := Lib.hid hds
  have HWW := Lib.hid (And.intro hWA (And.intro hWB hWC))
  clear hMI z1 z2 hb1 hWA hWB hWC sA sB sC bA bB bC rA mB pC bAll h0 hds HMM
  go_wp2_with fail
  go_loopw [9, 41] (fun _ i W => ∃ k : Nat, k ≤ n ∧ i = .int .i64 (k : Int) ∧ Nw w WC W (w1.heap.size + 1 + 1) w1.heap.size mz mg (w1.heap.size + 1) n s k) (fun _ i _ => n - (iv i).toNat)
  case atStart =>
    rw [HWW.out.1, HWW.out.2.1, HWW.out.2.2]
    exact ⟨0, Nat.zero_le _, rfl, H0.out⟩
  case round =>
    clear H0 HWW
    obtain ⟨k, hk, rfl, hN⟩ := hrel
    obtain ⟨bp, hbp⟩ : ∃ bp, w1.heap.size + 1 + 1 = bp := ⟨_, rfl⟩
    obtain ⟨bm, hbm⟩ : ∃ bm, w1.heap.size + 1 = bm := ⟨_, rfl⟩
    obtain ⟨bb, hbb⟩ : ∃ bb, w1.heap.size = bb := ⟨_, rfl⟩
    rw [hbp] at hN HD ⊢
    rw [hbm] at hN HD ⊢
    rw [hbb] at hN HD ⊢
    by_cases hkn : k < n
    · obtain ⟨v, hp, hown⟩ := hN.v
      obtain ⟨a, cap, rfl, g1, g2, _, _⟩ := rd_own hown
      have hds := HD.out
      have hplt := (hds.lt bp (by simp)).1
      have hZ := hN.Z
      have b2 := (Below.refl wr.heap.size wr).alloc (Nat.le_refl _) (.cells #[.int .i64 (-1)] 3)
      have hown1 := own_keep hown b2
      have hrn : Rd (wr.alloc (.cells #[.int .i64 (-1)] 3)) (some ⟨wr.heap.size, 0, none⟩) [.int .i64 (-1)] := Rd.new wr #[.int .i64 (-1)] 3 (0, 0) _ rfl
      obtain ⟨g2', cap2, w2, hrun, own2, gr2, hlie, hg2'⟩ := Mk.elI.lies WC.heap.size (ty := 38) hown1 1 1 rfl (by decide) hrn (by simp [Value.oneCell']) (by unfold maxLen; omega) (by omega) (by simp; omega)
      have hS : ∀ q ∈ (Value.slice a k cap).ownBlock.toList, WC.heap.size ≤ q := fun q hq => (hown1.lt q (by simpa using hq)).1
      have hM2 : Mod (Value.slice a k cap).ownBlock.toList wr w2 := ((Mod.refl _ wr).alloc _).grown gr2 (fun q hq => .inl (by simp [hq]))
      have hout : ∀ q, q < WC.heap.size → q ∉ (Value.slice a k cap).ownBlock.toList := fun q hq hm => by have := hS q hm; omega
      have hp2 := (hM2.block bp (block_lt hp) (hout _ hplt)).trans hp
      have kf := frozen_block (show _ = some (Obj.cells _ _ _) from hp2) 1
      have kc := cell_block (show _ = some (Obj.cells _ _ _) from hp2) 1
      have k1 := cell_block (show _ = some (Obj.cells _ _ _) from hp) 1
      obtain ⟨W3, hW3⟩ : ∃ W3, w2.setCell ⟨bp, 1, none⟩ (.slice (some ⟨g2', 0, none⟩) (k + 1) cap2) = W3 := ⟨_, rfl⟩
      have hp3 : W3.heap[bp]? = some (.cells #[.slice (some ⟨bb, 0, none⟩) n n, .slice (some ⟨g2', 0, none⟩) (k + 1) cap2, .pointer (some ⟨mz, 0, none⟩), .map (some bm), .int .i64 (s : Int), .int .i64 0] 96 (0, 0)) := by rw [← hW3, block_setCell hp2]; rfl
      have hM3 : Mod [bp] w2 W3 := by rw [← hW3]; exact (Mod.refl [bp] w2).setCell (.inl (by simp)) _
      have hnd := hds.nd
      simp only [List.nodup_cons, List.mem_cons, List.not_mem_nil, or_false, not_or] at hnd
      have hno : ∀ q, q ≠ bp → q ∉ [bp] := fun q hq => by simpa using hq
      have hg2n : g2' ≠ bp := fun e => by have := (own2.lt g2' rfl).1; omega
      have own3 := own_mod own2 hM3 (fun q hq => hno q (by simp [Value.ownBlock] at hq; omega))
      have hrep : i64s (List.replicate k (-1)) ++ [Value.int .i64 (-1)] = i64s (List.replicate (k + 1) (-1)) := by rw [List.replicate_succ', i64s, i64s, List.map_append]; rfl
      rw [hrep] at own3
      have hb3 := (hN.hb.mod hM2 (hout _ (hds.lt bb (by simp)).1)).mod hM3 (hno _ (fun e => hnd.1.1 e.symm))
      have hm3 := (hN.hm.mod hM2 (hout _ (hds.lt mz (by simp)).1) (hout _ (hds.lt mg (by simp)).1)).mod hM3 (hno _ (fun e => hnd.1.2.1 e.symm)) (hno _ (fun e => hnd.1.2.2.1 e.symm))
      have hq3 := (hN.hM.mod hM2 (hout _ (hds.lt bm (by simp)).1)).mod hM3 (hno _ (fun e => hnd.1.2.2.2 e.symm))
      have hput := Mk.put_m (k : Int) (WalkArith.wf_i64 (by omega)) W3 hm3
      have hlen : (List.replicate k true ++ List.replicate (n - k) false).length = n := by simp; omega
      rw [Mk.puB_nat k (by rw [hlen]; exact hkn), set_next n k hkn] at hput
      have hB3 : Below w.heap.size w W3 := by
        have hpw := (hds.lt bp (by simp)).2
        have hWw : w.heap.size ≤ WC.heap.size := by omega
        exact (hN.B.trans (hM2.toBelow hN.B.size fun q hq => by have := hS q hq; omega)).trans (hM3.toBelow (by have := hN.B.size; have := hM2.size; omega) fun q hq => by simp at hq; omega)
      have hnext : ∀ W4, Mk.MI W4 mz mg (List.replicate (k + 1) true ++ List.replicate (n - (k + 1)) false) → Mod [mg] W3 W4 → Nw w WC W4 bp bb mz mg bm n s (k + 1) := fun W4 hm4 hM4 => by
        have hn4 : ∀ q, q ≠ mg → q ∉ [mg] := fun q hq => by simpa using hq
        have hmglt := hds.lt mg (by simp)
        exact ⟨⟨_, (hM4.block bp (block_lt hp3) (hn4 _ hnd.1.2.2.1)).trans hp3, own_mod own3 hM4 (fun q hq => hn4 q (by simp [Value.ownBlock] at hq; have := (own2.lt g2' rfl).1; omega))⟩, hb3.mod hM4 (hn4 _ hnd.2.1.2.1), hm4, hq3.mod hM4 (hn4 _ (fun e => hnd.2.2.2.1 e.symm)), hB3.trans (hM4.toBelow hB3.size fun q hq => by simp at hq; omega), by have := hM2.size; have := hM3.size; have := hM4.size; omega⟩
      have k2 := cell_block (show _ = some (Obj.cells _ _ _) from hp3) 2
      simp only [List.getElem?_toArray, List.getElem?_cons_zero, List.getElem?_cons_succ] at kc k1 k2
      rw [← hW3] at k2
      have HPut := Lib.hid hput
      have HNext := Lib.hid hnext
      have HW3 := Lib.hid hW3
      clear hN hp hown g1 g2 hds hplt hZ b2 hown1 hrn own2 gr2 hlie hg2' hS hM2 hout hp2 hp3 hM3 hnd hno hg2n own3 hrep hb3 hm3 hq3 hput hlen hB3 hnext hW3 HD hmk hmm HNew hbp hbm hbb
      go_wp2_with ((at_builtin; (with_reducible apply wpList_append_run hrun); rfl; rfl; rfl; rfl; rfl))
      rw [HW3.out]
      with_reducible refine HPut.out.mono ?_
      rintro e w4 ⟨rfl, hm4, hM4⟩
      have HN4 := Lib.hid (HNext.out w4 hm4 hM4)
      clear hm4 hM4
      go_wp2_with fail
      go_roundw
      case rel => exact ⟨k + 1, by omega, by go_num, HN4.out⟩
      case measure => simp [iv]; omega
    · obtain rfl : k = n := by omega
      obtain ⟨L, hf1, hf2⟩ := new_fin h1 h2 h3 h4 hN HD.out
      have HF := Lib.hid (And.intro hf1 (And.intro hf2 hN.B))
      clear hf1 hf2 hN HD hmk hmm HNew hbp hbm hbb
      go_wp2_with fail
      go_ret2
      exact ⟨bp, L, rfl, HF.out⟩
end Po
end Go.Proofs.YtpjimmdpcpcmoaaDoor
