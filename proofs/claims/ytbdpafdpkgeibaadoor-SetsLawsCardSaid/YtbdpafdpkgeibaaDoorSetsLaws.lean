/- dofferlaw01.SetsLaws returns true. Condition: the table of TrailingZeros64 reads as laid. -/
import Derived.Test.YtbdpafdpkgeibaaDoorSetsLaws0
namespace Go.Proofs.YtbdpafdpkgeibaaDoor
open Go Go.RowKit Kt
namespace St
open Mk
/-- The loop over the spans. -/
def SlR (w3 : World) (ub : Nat) (acc : List (Nat × Nat)) (i : Value) (W : World) : Prop := ∃ (k : Nat) (uk : List Nat), k ≤ acc.length ∧ i = .int .i64 (k : Int) ∧ IsSet uk (cov (acc.take k)) ∧
  W.heap[ub]? = some (.cells (vals uk).toArray 54 (0, 0)) ∧ Mod [ub] w3 W
set_option maxHeartbeats 8000000 in
set_option maxRecDepth 100000 in
theorem laws_c (ws us : List Nat) (hw : IsSet ws (has ws)) (hu : IsSet us (has us)) (w : World) (hT : Bt.Tab w) : Calls Tryd.prog 10 #[sv ws, sv us] w fun e w' => e = .returned (.bool true) ∧ Below w.heap.size w w' := by
  obtain ⟨f, hf⟩ : ∃ f, has ws = f := ⟨_, rfl⟩
  obtain ⟨g, hg⟩ : ∃ g, has us = g := ⟨_, rfl⟩
  rw [hf] at hw
  rw [hg] at hu
  clear hf hg
  obtain ⟨r1, h1⟩ := exists_set (fun c => f c || g c)
  obtain ⟨r2, h2⟩ := exists_set (fun c => f c && g c)
  obtain ⟨r3, h3⟩ := exists_set (fun c => f c && !g c)
  obtain ⟨r4, h4⟩ := exists_set (fun c => !f c)
  obtain ⟨r6, h6⟩ := exists_set (fun c => !(f c || g c))
  obtain ⟨r7, h7⟩ := exists_set (fun c => !g c)
  have n1 := count_or f g (List.range 256)
  rw [← all_spec h1, ← all_spec h2, ← all_spec hw, ← all_spec hu] at n1
  have ew := fun w => eq_run ws ws hw.len hw.len w
  have e6 := fun w => eq_run r6 r6 h6.len h6.len w
  have hsp := fun W hT => spans_c ws hw.len hw.lt W hT
  have lw := fun W hT => list2_c ws f hw W hT
  have of' : ∀ (a : Option Addr) c n (l : List UInt8) W, l.length = n → n ≤ 256 → l.map UInt8.toNat = all ws → Rd W a (u8s l) → Calls Tryd.prog 32 #[.slice a n c] W fun e w' => e = .returned (sv ws) ∧ Below W.heap.size W w' := fun a c n l W hn hl hm hr => pin (of_c a c n l W hn (by omega) hr) hw (fun q hq => by rw [any_mem, hm]; exact mem_all hw q hq)
  have o1 := fun W => pin (or_c ws us f g hw hu W) h1 (fun _ _ => rfl)
  have o2 := fun W => pin (or_c r3 r2 _ _ h3 h2 W) hw (fun c _ => by cases f c <;> cases g c <;> rfl)
  have nt1 := fun W => pin (not_c r1 _ h1 W) h6 (fun _ _ => rfl)
  have nt2 := fun W => pin (not_c ws f hw W) h4 (fun _ _ => rfl)
  have nt3 := fun W => pin (not_c us g hu W) h7 (fun _ _ => rfl)
  have an1 := fun W => pin (and_c r4 r7 _ _ h4 h7 W) h6 (fun c _ => by cases f c <;> cases g c <;> rfl)
  have an2 := fun W => pin (and_c ws us f g hw hu W) h2 (fun _ _ => rfl)
  have an3 := fun W => pin (and_c r3 us _ g h3 hu W) zero_set (fun c _ => by cases f c <;> cases g c <;> rfl)
  have mi := fun W => pin (minus_c ws us f g hw hu W) h3 (fun _ _ => rfl)
  have em := fun W => empty_c [0, 0, 0, 0] _ zero_set W
  have hz0 : decide (all [0, 0, 0, 0] = []) = true := by decide +kernel
  rw [hz0] at em
  have len1 := fun W => len_c r1 _ h1 W
  have len2 := fun W => len_c r2 _ h2 W
  have len3 := fun W => len_c ws _ hw W
  have len4 := fun W => len_c us _ hu W
  have hbd : ∀ (rs : List Nat) (f : Nat → Bool), IsSet rs f → (all rs).length ≤ 256 := fun rs f h => by
    unfold all
    refine Nat.le_trans (List.length_filter_le _ _) ?_
    rw [List.length_range, h.len]
    exact Nat.le_refl _
  have d1 := hbd _ _ h1
  have d2 := hbd _ _ h2
  have d3 := hbd _ _ hw
  have d4 := hbd _ _ hu
  have hcov : ∀ q, q < 256 → cov (sps (all ws)) q = f q := fun q hq => (cov_sps _ q).trans (mem_all hw q hq)
  have hlt : ∀ p ∈ sps (all ws), p.1 < 256 ∧ p.2 < 256 := sps_lt (fun x hx => by have := all_lt hx; rw [hw.len] at this; exact this)
  have hla : (sps (all ws)).length ≤ 256 := Nat.le_trans (sps_len _) d3
  obtain ⟨acc, hacc⟩ : ∃ acc, sps (all ws) = acc := ⟨_, rfl⟩
  rw [hacc] at hcov hlt hla
  obtain ⟨m1, hm1⟩ : ∃ m, (all r1).length = m := ⟨_, rfl⟩
  obtain ⟨m2, hm2⟩ : ∃ m, (all r2).length = m := ⟨_, rfl⟩
  obtain ⟨m3, hm3⟩ : ∃ m, (all ws).length = m := ⟨_, rfl⟩
  obtain ⟨m4, hm4⟩ : ∃ m, (all us).length = m := ⟨_, rfl⟩
  rw [hm1] at n1 len1 d1
  rw [hm2] at n1 len2 d2
  rw [hm3] at n1 len3 d3
  rw [hm4] at n1 len4 d4
  have hsum : ((m1 : Int) + (m2 : Int) == (m3 : Int) + (m4 : Int)) = true := by simp; omega
  have hwr1 : IntKind.i64.wrap ((m1 : Int) + (m2 : Int)) = (m1 : Int) + (m2 : Int) := IntWalk.i64_in _ ⟨by omega, by omega⟩
  have hwr2 : IntKind.i64.wrap ((m3 : Int) + (m4 : Int)) = (m3 : Int) + (m4 : Int) := IntWalk.i64_in _ ⟨by omega, by omega⟩
  have Hws := Lib.hid hw
  have HOf := Lib.hid of'
  have HLw := Lib.hid lw
  have HSp := Lib.hid hsp
  clear lw of' hsp
  obtain ⟨x0, x1, x2, x3, rfl⟩ := four hw.len
  obtain ⟨y0, y1, y2, y3, rfl⟩ := four hu.len
  obtain ⟨p0, p1, p2, p3, rfl⟩ := four h1.len
  obtain ⟨q0, q1, q2, q3, rfl⟩ := four h2.len
  obtain ⟨r0, r1, r2, r3, rfl⟩ := four h3.len
  obtain ⟨s0, s1, s2, s3, rfl⟩ := four h4.len
  obtain ⟨t0, t1, t2, t3, rfl⟩ := four h6.len
  obtain ⟨v0, v1, v2, v3, rfl⟩ := four h7.len
  clear h1 h2 h3 h4 h6 h7 hw hu hm1 hm2 hm3 hm4 hz0 hbd n1 d1 d2 d3 d4
  simp only [sv, vals, List.map_cons, List.map_nil, decide_true, Int.natCast_zero] at o1 o2 nt1 nt2 nt3 an1 an2 an3 mi em len1 len2 len3 len4 ew e6 ⊢
  simp only [sv, vals, List.map_cons, List.map_nil] at HOf HLw HSp
  have O1 := Lib.hid o1
  have O2 := Lib.hid o2
  have N1 := Lib.hid nt1
  have N2 := Lib.hid nt2
  have N3 := Lib.hid nt3
  have A1 := Lib.hid an1
  have A2 := Lib.hid an2
  have A3 := Lib.hid an3
  have MI := Lib.hid mi
  have EM := Lib.hid em
  have L1 := Lib.hid len1
  have L2 := Lib.hid len2
  have L3 := Lib.hid len3
  have L4 := Lib.hid len4
  have HT := Lib.hid hT
  have Hcov := Lib.hid hcov
  have Hlt := Lib.hid hlt
  have Hacc := Lib.hid hacc
  clear o1 o2 nt1 nt2 nt3 an1 an2 an3 mi em len1 len2 len3 len4 hT hcov hlt hacc
  have hbz : ∀ w, (Instr.build 54 #[]).run Tryd.prog w = .ok (.agg #[.int .u64 0, .int .u64 0, .int .u64 0, .int .u64 0]) w := fun w => build_zero w
  have hX := Kt.heap_alloc2_old w (.cells #[.int .u64 (x0 : Int), .int .u64 (x1 : Int), .int .u64 (x2 : Int), .int .u64 (x3 : Int)] 54) (.cells #[.int .u64 (y0 : Int), .int .u64 (y1 : Int), .int .u64 (y2 : Int), .int .u64 (y3 : Int)] 54)
  have hY := heap_alloc2_new w (.cells #[.int .u64 (x0 : Int), .int .u64 (x1 : Int), .int .u64 (x2 : Int), .int .u64 (x3 : Int)] 54) (.cells #[.int .u64 (y0 : Int), .int .u64 (y1 : Int), .int .u64 (y2 : Int), .int .u64 (y3 : Int)] 54)
  have hB0 := ((Below.refl w.heap.size w).alloc (Nat.le_refl _) (.cells #[.int .u64 (x0 : Int), .int .u64 (x1 : Int), .int .u64 (x2 : Int), .int .u64 (x3 : Int)] 54)).alloc (by simp) (.cells #[.int .u64 (y0 : Int), .int .u64 (y1 : Int), .int .u64 (y2 : Int), .int .u64 (y3 : Int)] 54)
  have hAl := alive_c _ (HT.out.below hB0)
  have HX := Lib.hid hX
  have HY := Lib.hid hY
  have HB0 := Lib.hid hB0
  have HAl := Lib.hid hAl
  clear hX hY hB0 hAl
  go_enter Tryd.func10, Tryd.ntmps10
  go_wp2_with fail
  refine HAl.out.mono ?_
  rintro e w1 ⟨rfl, hb1⟩
  have hbA := (Below.refl w1.heap.size w1).alloc (Nat.le_refl _) (.cells #[.int .u64 0, .int .u64 0, .int .u64 0, .int .u64 0] 54)
  have hU2 := heap_alloc_new w1 (.cells #[.int .u64 0, .int .u64 0, .int .u64 0, .int .u64 0] 54)
  have hs2 : (w1.alloc (.cells #[.int .u64 0, .int .u64 0, .int .u64 0, .int .u64 0] 54)).heap.size = w1.heap.size + 1 := by simp
  have hX1 := (hb1.block _ (block_lt HX.out)).trans HX.out
  have hY1 := (hb1.block _ (block_lt HY.out)).trans HY.out
  have hX2 := (hbA.block _ (block_lt hX1)).trans hX1
  have hY2 := (hbA.block _ (block_lt hY1)).trans hY1
  have hB1 := HB0.out.trans (hb1.mono HB0.out.size)
  have hB2 := hB1.trans (hbA.mono hB1.size)
  have c0 := cell_block hX2 0
  have c1 := cell_block hX2 1
  have c2 := cell_block hX2 2
  have c3 := cell_block hX2 3
  simp at c0 c1 c2 c3
  have hubX := block_lt hX1
  have hubY := block_lt hY1
  have hubw := hB1.size
  have HS2 := Lib.hid (HSp.out _ (HT.out.below hB2))
  have HX2 := Lib.hid hX2
  have HY2 := Lib.hid hY2
  have HU2 := Lib.hid hU2
  have HB2 := Lib.hid hB2
  have Hs2 := Lib.hid hs2
  clear hb1 hbA hU2 hX1 hY1 hX2 hY2 hB1 hB2 HX HY HB0 HAl hs2
  go_wp2_with fail
  refine HS2.out.mono ?_
  rintro e w3 ⟨v, q, hq, rfl, hown, hb3⟩
  rw [hq, Hacc.out] at hown
  obtain ⟨N, hN⟩ : ∃ N, acc.length = N := ⟨_, rfl⟩
  rw [hN] at hown hla
  obtain ⟨a, cap, rfl, _, _, hr3, hblk⟩ := rd_own hown
  have hX3 := (hb3.block _ (block_lt HX2.out)).trans HX2.out
  have hY3 := (hb3.block _ (block_lt HY2.out)).trans HY2.out
  have hU3 := (hb3.block _ (block_lt HU2.out)).trans HU2.out
  have hnm : ∀ p, a = some p → p.block ∉ [w1.heap.size] := fun p hp hm => by
    have := (hblk p hp).1
    rw [Hs2.out] at this
    simp at hm
    omega
  have HR3 := Lib.hid hr3
  have Hnm := Lib.hid hnm
  have HX3 := Lib.hid hX3
  have HY3 := Lib.hid hY3
  have HU3 := Lib.hid hU3
  have HB3 := Lib.hid (HB2.out.trans (hb3.mono HB2.out.size))
  have HN := Lib.hid hN
  obtain ⟨ub, hub⟩ : ∃ ub, w1.heap.size = ub := ⟨_, rfl⟩
  clear hown hr3 hblk hnm hX3 hY3 hU3 hb3 hq c0 c1 c2 c3 HX2 HY2 HU2 HS2 HB2 Hs2 hN
  rw [hub] at hubX hubY hubw Hnm HU3 ⊢
  go_wp2_with fail
  go_loopw [7, 14] (fun _ i W => SlR w3 ub acc i W) (fun _ i _ => N - (intOf i).toNat)
  case atStart => exact ⟨0, [0, 0, 0, 0], Nat.zero_le _, rfl, ⟨rfl, zero_set.lt, fun c hc => by rw [zero_set.at' c hc]; rfl⟩, HU3.out, Mod.refl _ _⟩
  case round =>
    obtain ⟨k, uk, hk, rfl, huk, hU, hM⟩ := hrel
    rw [HN.out] at hk
    by_cases hlt : k < N
    · have hkl : k < acc.length := by rw [HN.out]; exact hlt
      obtain ⟨bb, off, ha, hc⟩ := Rd.struct 2 (show Rd wr a (acc.flatMap fun p => [.int .u8 ((p.1 : Nat) : Int), .int .u8 ((p.2 : Nat) : Int)]) from HR3.out.mod hM Hnm.out) (fun _ _ => rfl) k hkl (by omega)
      subst ha
      have d0 := hc 0 _ rfl (by omega)
      have d1 := hc 1 _ rfl (by omega)
      rw [Nat.add_zero] at d0
      rw [← Nat.add_assoc] at d1
      obtain ⟨hl1, hl2⟩ := Hlt.out _ (List.getElem_mem hkl)
      have hcs : ∀ q, cov (acc.take (k + 1)) q = (cov (acc.take k) q || (decide (acc[k].1 ≤ q) && decide (q ≤ acc[k].2))) := by
        intro q
        unfold cov
        rw [← List.take_append_getElem hkl, List.any_append]
        simp only [List.any_cons, List.any_nil, Bool.or_false]
      generalize acc[k].1 = lo at *
      generalize acc[k].2 = hi at *
      obtain ⟨un, hun⟩ := exists_set (cov (acc.take (k + 1)))
      obtain ⟨sp, hspn⟩ := exists_set (fun q => decide (lo ≤ q) && decide (q ≤ hi))
      have sp1 := fun W => pin (span_c lo hi hl1 hl2 W) hspn (fun _ _ => rfl)
      have or1 := fun W => pin (or_c uk sp _ _ huk hspn W) hun (fun c _ => (hcs c).symm)
      have Hun := Lib.hid hun
      obtain ⟨g0, g1, g2, g3, rfl⟩ := four huk.len
      obtain ⟨e0, e1, e2, e3, rfl⟩ := four hspn.len
      obtain ⟨f0, f1, f2, f3, rfl⟩ := four hun.len
      simp only [sv, vals, List.map_cons, List.map_nil] at sp1 or1 hU
      have c0 := cell_block hU 0
      have c1 := cell_block hU 1
      have c2 := cell_block hU 2
      have c3 := cell_block hU 3
      simp at c0 c1 c2 c3
      have hul := block_lt hU
      have SP := Lib.hid sp1
      have OR := Lib.hid or1
      have HU := Lib.hid hU
      have HM := Lib.hid hM
      have sk : ∀ W, Below wr.heap.size wr W → (W.heap[ub]? = some (.cells #[.int .u64 (g0 : Int), .int .u64 (g1 : Int), .int .u64 (g2 : Int), .int .u64 (g3 : Int)] 54 (0, 0))) := fun W hb => (hb.block _ hul).trans hU
      have SK := Lib.hid sk
      have z0 := ((Below.refl wr.heap.size wr).alloc (Nat.le_refl _) (.cells #[.int .u8 (lo : Int), .int .u8 (hi : Int)] 73)).drew
      clear sp1 or1 hU hM hc hcs huk hspn hun sk
      go_wp2_with fail
      go_region_law (first
        | (((with_reducible apply step_call (SP.out _) Tryd.func35 (by kernel_rfl) (by kernel_rfl)); rfl; rfl; rfl); rintro e w5 ⟨rfl, hb5⟩; refine ⟨_, rfl, ?_⟩; have z1 := z0.trans (hb5.mono z0.size)
           have i0 := cell_block (SK.out _ z1) 0
           have i1 := cell_block (SK.out _ z1) 1
           have i2 := cell_block (SK.out _ z1) 2
           have i3 := cell_block (SK.out _ z1) 3
           simp at i0 i1 i2 i3)
        | (((with_reducible apply step_call (OR.out _) Tryd.func39 (by kernel_rfl) (by kernel_rfl)); rfl; rfl; rfl); rintro e w6 ⟨rfl, hb6⟩; refine ⟨_, rfl, ?_⟩; have z2 := z1.trans (hb6.mono z1.size)
           have i0 := cell_block (SK.out _ z2) 0
           have i1 := cell_block (SK.out _ z2) 1
           have i2 := cell_block (SK.out _ z2) 2
           have i3 := cell_block (SK.out _ z2) 3
           have j0 := frozen_block (SK.out _ z2) 0
           have j1 := frozen_block (SK.out _ z2) 1
           have j2 := frozen_block (SK.out _ z2) 2
           have j3 := frozen_block (SK.out _ z2) 3
           simp at i0 i1 i2 i3))
      all_goals (
        have hu1 := SK.out _ z2
        have hu2 := block_setCell (i := 3) (block_setCell (i := 2) (block_setCell (i := 1) (block_setCell (i := 0) hu1 (.int .u64 (f0 : Int))) (.int .u64 (f1 : Int))) (.int .u64 (f2 : Int))) (.int .u64 (f3 : Int))
        have hm1 := ((((HM.out.below z2).setCell (p := ⟨ub, 0, none⟩) (.inl (List.mem_singleton.2 rfl)) (.int .u64 (f0 : Int))).setCell (p := ⟨ub, 1, none⟩) (.inl (List.mem_singleton.2 rfl)) (.int .u64 (f1 : Int))).setCell (p := ⟨ub, 2, none⟩) (.inl (List.mem_singleton.2 rfl)) (.int .u64 (f2 : Int))).setCell (p := ⟨ub, 3, none⟩) (.inl (List.mem_singleton.2 rfl)) (.int .u64 (f3 : Int))
        have HU2 := Lib.hid hu2
        have HM2 := Lib.hid hm1
        clear hu1 hu2 hm1 i0 i1 i2 i3 j0 j1 j2 j3
        go_wp2
        go_roundw
        case rel => first | exact ⟨k + 1, [f0, f1, f2, f3], hkl, by go_num, Hun.out, HU2.out, HM2.out⟩ | ((repeat apply Exists.intro); (refine ⟨?_, ?_⟩); rotate_left 1; (focus (and_intros <;> rfl)); exact ⟨k + 1, [f0, f1, f2, f3], hkl, by go_num, Hun.out, HU2.out, HM2.out⟩))
      all_goals (first | (simp [intOf]; omega) | skip)
    · have hkn : k = N := by omega
      subst hkn
      rw [List.take_of_length_le (Nat.le_of_eq HN.out)] at huk
      obtain rfl := (show IsSet uk f from ⟨huk.len, huk.lt, fun c hc => (huk.at' c hc).trans (Hcov.out c hc)⟩).unique Hws.out
      simp only [vals, List.map_cons, List.map_nil] at hU
      have hX := ((hM.block _ (block_lt HX3.out) (by simp; omega))).trans HX3.out
      have hY := ((hM.block _ (block_lt HY3.out) (by simp; omega))).trans HY3.out
      have hBw : Below w.heap.size w wr := HB3.out.trans (hM.toBelow HB3.out.size (by simp; omega))
      have sk : ∀ W, Below wr.heap.size wr W → ((W.cell? ⟨w.heap.size, 0, none⟩ = some (.int .u64 (x0 : Int)) ∧ W.cell? ⟨w.heap.size, 1, none⟩ = some (.int .u64 (x1 : Int)) ∧ W.cell? ⟨w.heap.size, 2, none⟩ = some (.int .u64 (x2 : Int)) ∧ W.cell? ⟨w.heap.size, 3, none⟩ = some (.int .u64 (x3 : Int)))
          ∧ (W.cell? ⟨w.heap.size + 1, 0, none⟩ = some (.int .u64 (y0 : Int)) ∧ W.cell? ⟨w.heap.size + 1, 1, none⟩ = some (.int .u64 (y1 : Int)) ∧ W.cell? ⟨w.heap.size + 1, 2, none⟩ = some (.int .u64 (y2 : Int)) ∧ W.cell? ⟨w.heap.size + 1, 3, none⟩ = some (.int .u64 (y3 : Int)))
          ∧ (W.cell? ⟨ub, 0, none⟩ = some (.int .u64 (x0 : Int)) ∧ W.cell? ⟨ub, 1, none⟩ = some (.int .u64 (x1 : Int)) ∧ W.cell? ⟨ub, 2, none⟩ = some (.int .u64 (x2 : Int)) ∧ W.cell? ⟨ub, 3, none⟩ = some (.int .u64 (x3 : Int)))) := by
        intro W hb
        have h1 := (hb.block _ (block_lt hX)).trans hX
        have h2 := (hb.block _ (block_lt hY)).trans hY
        have h3 := (hb.block _ (block_lt hU)).trans hU
        exact ⟨⟨cell_block h1 0, cell_block h1 1, cell_block h1 2, cell_block h1 3⟩, ⟨cell_block h2 0, cell_block h2 1, cell_block h2 2, cell_block h2 3⟩, ⟨cell_block h3 0, cell_block h3 1, cell_block h3 2, cell_block h3 3⟩⟩
      have LW := Lib.hid fun W (hb : Below wr.heap.size wr W) => HLw.out W (HT.out.below (hBw.trans (hb.mono hBw.size)))
      have SK := Lib.hid sk
      have HBw := Lib.hid hBw
      have z0 : Below wr.heap.size wr wr.drew := (Below.refl _ _).drew
      have zr : Below wr.heap.size wr wr := Below.refl _ _
      clear sk hX hY hU hBw hM huk HR3 Hnm HX3 HY3 HU3 HB3 HLw HSp hla
      go_wp2_with fail
      go_region_held3 (fun W => (W.cell? ⟨w.heap.size, 0, none⟩ = some (.int .u64 (x0 : Int)) ∧ W.cell? ⟨w.heap.size, 1, none⟩ = some (.int .u64 (x1 : Int)) ∧ W.cell? ⟨w.heap.size, 2, none⟩ = some (.int .u64 (x2 : Int)) ∧ W.cell? ⟨w.heap.size, 3, none⟩ = some (.int .u64 (x3 : Int)))
          ∧ (W.cell? ⟨w.heap.size + 1, 0, none⟩ = some (.int .u64 (y0 : Int)) ∧ W.cell? ⟨w.heap.size + 1, 1, none⟩ = some (.int .u64 (y1 : Int)) ∧ W.cell? ⟨w.heap.size + 1, 2, none⟩ = some (.int .u64 (y2 : Int)) ∧ W.cell? ⟨w.heap.size + 1, 3, none⟩ = some (.int .u64 (y3 : Int)))
          ∧ (W.cell? ⟨ub, 0, none⟩ = some (.int .u64 (x0 : Int)) ∧ W.cell? ⟨ub, 1, none⟩ = some (.int .u64 (x1 : Int)) ∧ W.cell? ⟨ub, 2, none⟩ = some (.int .u64 (x2 : Int)) ∧ W.cell? ⟨ub, 3, none⟩ = some (.int .u64 (x3 : Int))))
        (with_reducible exact SK.out _ (by assumption))
        (first
          | (go_at_call 47; (with_reducible refine (LW.out _ (by assumption)).mono ?_); rintro e w7 ⟨la, lc, ln, ll, rfl, hl1, hl2, hl3, hl4, hb⟩
             have zz : Below wr.heap.size wr w7 := Kt.chn hb (by assumption))
          | (go_at_call 32; (with_reducible refine (HOf.out _ _ _ _ _ hl1 hl2 hl3 hl4).mono ?_); rintro e w7 ⟨rfl, hb⟩
             have zz : Below wr.heap.size wr w7 := Kt.chn hb (by assumption))
          | (go_at_call 39; (with_reducible refine (O1.out _).mono ?_); rintro e w7 ⟨rfl, hb⟩
             have zz : Below wr.heap.size wr w7 := Kt.chn hb (by assumption))
          | (go_at_call 39; (with_reducible refine (O2.out _).mono ?_); rintro e w7 ⟨rfl, hb⟩
             have zz : Below wr.heap.size wr w7 := Kt.chn hb (by assumption))
          | (go_at_call 43; (with_reducible refine (N1.out _).mono ?_); rintro e w7 ⟨rfl, hb⟩
             have zz : Below wr.heap.size wr w7 := Kt.chn hb (by assumption))
          | (go_at_call 43; (with_reducible refine (N2.out _).mono ?_); rintro e w7 ⟨rfl, hb⟩
             have zz : Below wr.heap.size wr w7 := Kt.chn hb (by assumption))
          | (go_at_call 43; (with_reducible refine (N3.out _).mono ?_); rintro e w7 ⟨rfl, hb⟩
             have zz : Below wr.heap.size wr w7 := Kt.chn hb (by assumption))
          | (go_at_call 41; (with_reducible refine (A1.out _).mono ?_); rintro e w7 ⟨rfl, hb⟩
             have zz : Below wr.heap.size wr w7 := Kt.chn hb (by assumption))
          | (go_at_call 41; (with_reducible refine (A2.out _).mono ?_); rintro e w7 ⟨rfl, hb⟩
             have zz : Below wr.heap.size wr w7 := Kt.chn hb (by assumption))
          | (go_at_call 41; (with_reducible refine (A3.out _).mono ?_); rintro e w7 ⟨rfl, hb⟩
             have zz : Below wr.heap.size wr w7 := Kt.chn hb (by assumption))
          | (go_at_call 42; (with_reducible refine (MI.out _).mono ?_); rintro e w7 ⟨rfl, hb⟩
             have zz : Below wr.heap.size wr w7 := Kt.chn hb (by assumption))
          | (go_at_call 49; (with_reducible refine (EM.out _).mono ?_); rintro e w7 ⟨rfl, hb⟩
             have zz : Below wr.heap.size wr w7 := Kt.chn hb (by assumption))
          | (go_at_call 48; (with_reducible refine (L1.out _).mono ?_); rintro e w7 ⟨rfl, hb⟩
             have zz : Below wr.heap.size wr w7 := Kt.chn hb (by assumption))
          | (go_at_call 48; (with_reducible refine (L2.out _).mono ?_); rintro e w7 ⟨rfl, hb⟩
             have zz : Below wr.heap.size wr w7 := Kt.chn hb (by assumption))
          | (go_at_call 48; (with_reducible refine (L3.out _).mono ?_); rintro e w7 ⟨rfl, hb⟩
             have zz : Below wr.heap.size wr w7 := Kt.chn hb (by assumption))
          | (go_at_call 48; (with_reducible refine (L4.out _).mono ?_); rintro e w7 ⟨rfl, hb⟩
             have zz : Below wr.heap.size wr w7 := Kt.chn hb (by assumption)))
      go_wp2
      go_ret
      exact ⟨by first | rfl | simp, HBw.out.trans ((show Below wr.heap.size wr _ by assumption).mono HBw.out.size)⟩
end St
end Go.Proofs.YtbdpafdpkgeibaaDoor
