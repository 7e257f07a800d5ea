import Derived.Test.YtpjimmdpcpcmoaaDoorQPoolTake1
/- The walks of package pool: Take that takes. Condition: the table of TrailingZeros64 reads as laid. -/
namespace Go.Proofs.YtpjimmdpcpcmoaaDoor
open Go Go.RowKit Kt
namespace Po
variable {w w' : World} {p ob oc bb mz mg mb : Nat} {A : List (Int × Int × Nat)} {G : List (Option Nat)} {m : Md} {L : List Nat}
set_option maxRecDepth 100000 in
set_option maxHeartbeats 2000000 in
theorem take_yes (x : Int) (hx : (Lit.int .i64 x).wf = true) (w : World) (h : PI w p L m) (hT : Bt.Tab w) (he : takE m x = 0) :
    Calls Tryd.prog 13 #[.pointer (some ⟨p, 0, none⟩), .int .i64 x] w fun e w' => ∃ L', e = .returned (.tuple #[.int .i64 (takI m x : Int), .nilIface]) ∧ PI w' p L' (tak m x) ∧ Mod L w w' ∧ Fr L' L w.heap.size := by
  have hok := h.ok
  obtain ⟨c, i, hc, hch, hfr, hti⟩ := takE_zero he
  obtain ⟨hi, hoi, hbef⟩ := free1_some hfr
  obtain ⟨ob, oc, bb, mz, mg, mb, A, G, hb, rfl⟩ := h.ex
  have hx0 := (hok.cr _ (crd_mem hc)).1
  simp only at hx0
  have k0 := cell_block hb.hp 0
  have k1 := cell_block hb.hp 1
  have k3 := cell_block hb.hp 3
  have k2 := cell_block hb.hp 2
  have k4 := cell_block hb.hp 4
  have k5 := cell_block hb.hp 5
  have hl := hb.look x hx
  have haf := Mk.after_m (-1) w hb.hm hT
  have hfi : freeI m.own = (i : Int) := by unfold freeI; rw [hfr]
  rw [aft_free, hfi] at haf
  obtain ⟨bk, e1, e2⟩ := hb.acct hc
  rw [e1] at hl
  simp only [pv, Option.isSome_some] at hl
  have kh := cell_block (hb.ha _ e2) 1
  have kc := cell_block (hb.ha _ e2) 0
  simp only at kh kc
  have hout := fun W (hM : Mk.MI W mz mg (fr m.own)) => Mk.out_m (i : Int) (WalkArith.wf_i64 (by have := hok.n2; omega)) W hM
  have hfl : (fr m.own).length = m.own.length := by simp [fr]
  rw [Mk.ouB_nat i (by rw [hfl]; exact hi), fr_held m.own i x hx0] at hout
  have hmk := fun w => run_make_row' (P := Tryd.prog) 54 5 (.int .u8 0) 1 Tryd.underlying54 (by kernel_rfl) rfl .i64 .i64 m.size (by have := hok.s2; omega) (by have := hok.s2; omega) w
  rw [made_zero] at hmk
  obtain ⟨n, hn⟩ : ∃ n, m.own.length = n := ⟨_, rfl⟩
  obtain ⟨z, hz⟩ : ∃ z, m.size = z := ⟨_, rfl⟩
  obtain ⟨H, hH⟩ : ∃ H : Int, (held m.own x : Int) = H := ⟨_, rfl⟩
  obtain ⟨U, hU⟩ : ∃ U : Int, (used m.own : Int) = U := ⟨_, rfl⟩
  obtain ⟨M, hM⟩ : ∃ M, (u8s (List.replicate z 0)).toArray = M := ⟨_, rfl⟩
  rw [hz, hM] at hmk
  rw [hH] at kh
  have hni : i < n := by omega
  have hn2 := hok.n2
  have hs2 := hok.s2
  rw [hn] at k0 k1 hn2
  rw [hz] at k4 hs2
  rw [hU] at k5
  have hGi : G[i]? = some none := by
    rcases hb.hg i hi with ⟨h1, _⟩ | ⟨g, o, y, _, h2, h3, _⟩
    · exact h1
    · rw [List.getElem?_eq_getElem hi] at h2
      simp only [Option.some.injEq] at h2
      omega
  have HAf := Lib.hid haf
  have HOut := Lib.hid (fun nq => hout (w.drewN nq) (hb.hm.below (below_drewN (Below.refl _ _) nq)))
  have HA := Lib.hid (fun nq => At.load_c bk 1 H (w.drewN nq) kh)
  have hd : decide (c ≤ H) = false := by simp; omega
  have HBB := Lib.hid hb
  have HE2 := Lib.hid e2
  have HN := Lib.hid (And.intro hn (And.intro hz (And.intro hH (And.intro hU hM))))
  have HR := Lib.hid (And.intro hi (And.intro hoi (And.intro hGi (And.intro hx0 hch))))
  have HOk := Lib.hid (And.intro hok (And.intro he hti))
  rw [hti]
  clear hb h hx hT he hout haf hok hfr hoi hbef hfi hfl hti e1 e2 hc hx0 hGi hn hz hH hU hM hch
  go_enter Tryd.func13, Tryd.ntmps13
  go_wp2_with (go_at_call 49; (with_reducible refine HAf.out.mono ?_); rintro e w2 ⟨rfl, rfl⟩)
  go_quiet ((go_at_call 48; exact Calls.quiet_of_same ((HA.out _).mono fun _ _ ⟨h1, h2⟩ => ⟨h1, h2.symm⟩)))
  go_wp2_with fail
  with_reducible refine (HOut.out _).mono ?_
  rintro e w1 ⟨rfl, hMI, hM1⟩
  have hMw : Mod [mg] w w1 := ((Mod.refl [mg] w).drewN nq).trans hM1 (fun k hk => .inl hk)
  have hb := HBB.out
  have ap := hb.ap
  have hxx := ap.x
  simp only [List.nodup_cons, List.mem_cons, List.not_mem_nil, or_false, not_or] at hxx
  have hbk := ap.a bk (List.mem_map.2 ⟨_, HE2.out, rfl⟩)
  have hns : ∀ k, k ≠ mg → k ∉ [mg] := fun k hk => by simpa using hk
  have hp1 := (hMw.block p (block_lt hb.hp) (hns _ (by omega))).trans hb.hp
  have ho1 := hb.ho.mod hMw (hns _ (by omega))
  have hb1 := hb.hb.mod hMw (hns _ (by omega))
  have hk1 := (hMw.block bk (block_lt (hb.ha _ HE2.out)) (hns _ hbk.2.2.2.2.1)).trans (hb.ha _ HE2.out)
  have ko := ho1.cell i (by rw [ints_len]; exact HR.out.1)
  have kfo := ho1.fr i
  have kb := hb1.cell i (by rw [List.length_map, hb.hG]; exact HR.out.1)
  have kfb := hb1.fr i
  have hkb : ((G.map (gv m.size)))[i]'(by rw [List.length_map, hb.hG]; exact HR.out.1) = .slice none 0 0 := by
    have h1 := HR.out.2.2.1
    rw [List.getElem?_eq_getElem (by rw [hb.hG]; exact HR.out.1)] at h1
    simp only [Option.some.injEq] at h1
    rw [List.getElem_map, h1]
    rfl
  rw [hkb] at kb
  obtain ⟨vo, hvo⟩ : ∃ vo, (i64s m.own)[i]'(by rw [ints_len]; exact HR.out.1) = vo := ⟨_, rfl⟩
  rw [hvo] at ko
  have q0 := cell_block hp1 0
  have q1 := cell_block hp1 1
  have q4 := cell_block hp1 4
  simp only [HN.out.1, HN.out.2.1, List.getElem?_toArray, List.getElem?_cons_zero, List.getElem?_cons_succ] at q0 q1 q4
  have hne1 : ob ≠ bb := by omega
  have hpA := block_alloc (x := .cells M 5 (0, 0)) hp1
  have hoA := ho1.alloc (.cells M 5 (0, 0))
  have hbA := hb1.alloc (.cells M 5 (0, 0))
  have r0 := cell_block hpA 0
  have r1 := cell_block hpA 1
  have r4 := cell_block hpA 4
  simp only [HN.out.1, HN.out.2.1, List.getElem?_toArray, List.getElem?_cons_zero, List.getElem?_cons_succ] at r0 r1 r4
  have so := hoA.cell i (by rw [ints_len]; exact HR.out.1)
  have sfo := hoA.fr i
  have sb := hbA.cell i (by rw [List.length_map, hb.hG]; exact HR.out.1)
  have sfb := hbA.fr i
  rw [hkb] at sb
  rw [hvo] at so
  clear hpA hoA hbA
  have hMV : Mod [ob] w1 ((w1.setCell ⟨ob, i, none⟩ (.int .i64 x)).alloc (.cells M 5 (0, 0))) := ((Mod.refl [ob] w1).setCell (.inl (by simp)) _).alloc _
  have hpA := (hMV.block p (block_lt hp1) (by simp; omega)).trans hp1
  have hbA := hb1.mod hMV (by simp; omega)
  have v0 := cell_block hpA 0
  have v1 := cell_block hpA 1
  have v4 := cell_block hpA 4
  simp only [HN.out.1, HN.out.2.1, List.getElem?_toArray, List.getElem?_cons_zero, List.getElem?_cons_succ] at v0 v1 v4
  have vb := hbA.cell i (by rw [List.length_map, hb.hG]; exact HR.out.1)
  have vfb := hbA.fr i
  rw [hkb] at vb
  have hne2 : ob ≠ p := by omega
  clear hpA hbA hMV
  have hmid : TkM w1 (((w1.alloc (.cells M 5 (0, 0))).setCell ⟨ob, i, none⟩ (.int .i64 x)).setCell ⟨bb, i, none⟩ (.slice (some ⟨w1.heap.size, 0, none⟩) z z)).drew p ob oc bb mz mg mb bk z n i (m.own.set i x) G U c H := by
    have hMX : Mod [ob, bb] w1 (((w1.alloc (.cells M 5 (0, 0))).setCell ⟨ob, i, none⟩ (.int .i64 x)).setCell ⟨bb, i, none⟩ (.slice (some ⟨w1.heap.size, 0, none⟩) z z)) := (((Mod.refl [ob, bb] w1).alloc _).setCell (.inl (by simp)) _).setCell (.inl (by simp)) _
    have hno : ∀ k, k ≠ ob → k ≠ bb → k ∉ [ob, bb] := fun k h1 h2 => by simp [h1, h2]
    have e1 : (i64s m.own).set i (.int .i64 x) = i64s (m.own.set i x) := by simp [i64s, List.map_set]
    have e2 : (G.map (gv m.size)).set i (.slice (some ⟨w1.heap.size, 0, none⟩) z z) = (G.set i (some w1.heap.size)).map (gv z) := by rw [List.map_set, HN.out.2.1]; rfl
    have ho4 := ((ho1.alloc (.cells M 5 (0, 0))).set i (.int .i64 x)).other (b := bb) (by omega) i (.slice (some ⟨w1.heap.size, 0, none⟩) z z)
    have hb4 := ((hb1.alloc (.cells M 5 (0, 0))).other (b := ob) (by omega) i (.int .i64 x)).set i (.slice (some ⟨w1.heap.size, 0, none⟩) z z)
    have hg4 := ((Rx.new w1 5 (u8s (List.replicate z 0))).other (b := ob) (by have := ho1.lt; omega) i (.int .i64 x)).other (b := bb) (by have := hb1.lt; omega) i (.slice (some ⟨w1.heap.size, 0, none⟩) z z)
    rw [e1] at ho4
    rw [e2, HN.out.1] at hb4
    rw [HN.out.2.2.2.2] at hg4
    have hgl : (u8s (List.replicate z (0 : UInt8))).length = z := by simp [u8s]
    rw [hgl] at hg4
    have hp4 := (hMX.block p (block_lt hp1) (hno _ (by omega) (by omega))).trans hp1
    have hk4 := (hMX.block bk (block_lt hk1) (hno _ hbk.2.1 hbk.2.2.1)).trans hk1
    rw [HN.out.1, HN.out.2.1, HN.out.2.2.2.1] at hp4
    simp only at hk4
    rw [HN.out.2.2.1] at hk4
    exact ⟨hp4, ho4.drew, hb4.drew, hk4, hMI.mod hMX.drew (hno _ (by omega) (by omega)) (hno _ (by omega) (by omega)), hg4.drew, hMX.drew⟩
  have HMid := Lib.hid hmid
  have Hlt := Lib.hid (ho1.lt)
  clear hmid
  have W1 := Lib.hid (And.intro hp1 (And.intro ho1 (And.intro hb1 (And.intro hk1 (And.intro hMI hMw)))))
  have HX := Lib.hid (And.intro ap (And.intro hxx hbk))
  clear hb ap hxx hbk hns hp1 ho1 hb1 hk1 hMI hMw hM1 hkb hvo k0 k1 k2 k3 k4 k5 kh kc hl HOut HA HAf
  go_upto_region 10 with (fail)
  go_cut [] (fun W => TkM w1 W p ob oc bb mz mg mb bk z n i (m.own.set i x) G U c H)
  case first =>
    go_region
    all_goals go_wp2
    all_goals go_meet
    all_goals (first | exact HMid.out | (rw [alloc_set _ _ _ _ _ Hlt.out]; exact HMid.out))
  case rest =>
    have hkc := cell_block hcut.hk 1
    have hkf := frozen_block hcut.hk 1
    clear hmk kfo kb kfb ko q0 q1 q4 r0 r1 r4 so sfo sb sfb v0 v1 v4 vb vfb HMid Hlt
    have hpc := cell_block hcut.hp 5
    have hpf := frozen_block hcut.hp 5
    have hhl := held_le m.own x
    have hul := used_le m.own
    have hn3 := HN.out.1
    have hH3 := HN.out.2.2.1
    have hU3 := HN.out.2.2.2.1
    have hpb : p ≠ bk := fun e => HX.out.2.2.1 e.symm
    have hadd := At.add_c bk 1 H 1 (H + 1) wc hkc hkf rfl (by omega) (by omega)
    have hpc2 : (wc.setCell ⟨bk, 1, none⟩ (.int .i64 (H + 1))).heap[p]? = _ := (block_setOther (i := 1) hpb _).trans hcut.hp
    have hadd2 := At.add_c p 5 U 1 (U + 1) (wc.setCell ⟨bk, 1, none⟩ (.int .i64 (H + 1))) (cell_block hpc2 5) (frozen_block hpc2 5) rfl (by omega) (by omega)
    have hfin := take_fin HBB.out HOk.out.1 HOk.out.2.1 HOk.out.2.2 HE2.out HR.out.1 HR.out.2.1 HR.out.2.2.1 HR.out.2.2.2.1 HN.out.1 HN.out.2.1 HN.out.2.2.1 HN.out.2.2.2.1 W1.out.2.2.2.2.2 hcut
    have HAd := Lib.hid hadd
    have HAd2 := Lib.hid hadd2
    have HFin := Lib.hid hfin
    clear hadd hadd2 hfin hpc2 hpc hpf hhl hul hn3 hH3 hU3 hpb hkc hkf hcut HBB HOk HE2 HR HN W1 HX
    go_wp2_with fail
    with_reducible refine HAd.out.mono ?_
    rintro e w5 ⟨rfl, rfl⟩
    go_wp2_with fail
    with_reducible refine HAd2.out.mono ?_
    rintro e w6 ⟨rfl, rfl⟩
    go_wp2
    go_ret2
    obtain ⟨L', h1, h2, h3⟩ := HFin.out
    exact ⟨L', rfl, h1, h2, h3⟩
end Po
end Go.Proofs.YtpjimmdpcpcmoaaDoor
