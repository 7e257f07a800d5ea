import Derived.Test.YtpjimmdpcpcmoaaDoorQPoolGive
/- The walks of package pool: Give that gives. Condition: the sentinels read as laid. -/
namespace Go.Proofs.YtpjimmdpcpcmoaaDoor
open Go Go.RowKit Kt
namespace Po
variable {w w' : World} {p ob oc bb mz mg mb : Nat} {A : List (Int × Int × Nat)} {G : List (Option Nat)} {m : Md} {L : List Nat}
set_option maxHeartbeats 1000000 in
theorem give_mid (hb : PB w p ob oc bb mz mg mb A G m) {i g bk : Nat} {x c : Int} (e2 : (x, c, bk) ∈ A) (_hGi : G[i]? = some (some g)) :
    GvM w ((w.setCell ⟨ob, i, none⟩ (.int .i64 (-1))).setCell ⟨bb, i, none⟩ (.slice none 0 0)).drew p ob oc bb mz mg mb bk m.size m.own.length i m.own (m.own.set i (-1)) G (used m.own : Int) c (held m.own x : Int) ∧
    GvM w ((w.setCell ⟨bb, i, none⟩ (.slice none 0 0)).setCell ⟨ob, i, none⟩ (.int .i64 (-1))).drew p ob oc bb mz mg mb bk m.size m.own.length i m.own (m.own.set i (-1)) G (used m.own : Int) c (held m.own x : Int) := by
  have ap := hb.ap
  have hxx := ap.x
  simp only [List.nodup_cons, List.mem_cons, List.not_mem_nil, or_false, not_or] at hxx
  have hbk := ap.a bk (List.mem_map.2 ⟨_, e2, rfl⟩)
  have hno : ∀ k, k ≠ ob → k ≠ bb → k ∉ [ob, bb] := fun k h1 h2 => by simp [h1, h2]
  have e1 : (i64s m.own).set i (.int .i64 (-1)) = i64s (m.own.set i (-1)) := by simp [i64s, List.map_set]
  have e3 : (G.map (gv m.size)).set i (.slice none 0 0) = (G.set i none).map (gv m.size) := by rw [List.map_set]; rfl
  have n1 := hno p (by omega) (by omega)
  have n2 := hno mz (by omega) (by omega)
  have n3 := hno mg (by omega) (by omega)
  have n4 := hno bk hbk.2.1 hbk.2.2.1
  have hob : ob ≠ bb := by omega
  constructor
  · have hM : Mod [ob, bb] w ((w.setCell ⟨ob, i, none⟩ (.int .i64 (-1))).setCell ⟨bb, i, none⟩ (.slice none 0 0)) := ((Mod.refl [ob, bb] w).setCell (.inl (by simp)) _).setCell (.inl (by simp)) _
    have ho := (hb.ho.set i (.int .i64 (-1))).other (b := bb) (fun e => hob e.symm) i (.slice none 0 0)
    have hbb := (hb.hb.other (b := ob) hob i (.int .i64 (-1))).set i (.slice none 0 0)
    rw [e1] at ho
    rw [e3] at hbb
    exact ⟨(hM.block p (block_lt hb.hp) n1).trans hb.hp, ho.drew, hbb.drew, (hM.block bk (block_lt (hb.ha _ e2)) n4).trans (hb.ha _ e2), hb.hm.mod hM.drew n2 n3, hM.drew⟩
  · have hM : Mod [ob, bb] w ((w.setCell ⟨bb, i, none⟩ (.slice none 0 0)).setCell ⟨ob, i, none⟩ (.int .i64 (-1))) := ((Mod.refl [ob, bb] w).setCell (.inl (by simp)) _).setCell (.inl (by simp)) _
    have ho := (hb.ho.other (b := bb) (fun e => hob e.symm) i (.slice none 0 0)).set i (.int .i64 (-1))
    have hbb := (hb.hb.set i (.slice none 0 0)).other (b := ob) hob i (.int .i64 (-1))
    rw [e1] at ho
    rw [e3] at hbb
    exact ⟨(hM.block p (block_lt hb.hp) n1).trans hb.hp, ho.drew, hbb.drew, (hM.block bk (block_lt (hb.ha _ e2)) n4).trans (hb.ha _ e2), hb.hm.mod hM.drew n2 n3, hM.drew⟩
set_option maxRecDepth 100000 in
set_option maxHeartbeats 2000000 in
theorem give_yes (E : Nat → Addr) (x b : Int) (hx : (Lit.int .i64 x).wf = true) (w : World) (h : PI w p L m) (hs : Sent 169 w E Er.egs) (he : hldE m x b = 0) :
    Calls Tryd.prog 14 #[.pointer (some ⟨p, 0, none⟩), .int .i64 x, .int .i64 b] w fun e w' => ∃ L', e = .returned .nilIface ∧ PI w' p L' (giv m x b) ∧ Mod L w w' ∧ Fr L' L w.heap.size := by
  have hok := h.ok
  have hh := holds_c E x b hx w h hs
  rw [he] at hh
  have hnil : ee E 0 = .nilIface := rfl
  rw [hnil] at hh
  obtain ⟨c, hc, hb0, hi, hoi⟩ := hldE_zero he
  obtain ⟨i, rfl⟩ : ∃ i : Nat, b = (i : Int) := ⟨b.toNat, by omega⟩
  simp only [Int.toNat_natCast] at hi hoi
  obtain ⟨ob, oc, bb, mz, mg, mb, A, G, hb, rfl⟩ := h.ex
  have hx0 := (hok.cr _ (crd_mem hc)).1
  simp only at hx0
  obtain ⟨g, hGi⟩ : ∃ g, G[i]? = some (some g) := by
    rcases hb.hg i hi with ⟨_, o, h3, h4⟩ | ⟨g, _, _, h3, _⟩
    · rw [List.getElem?_eq_getElem hi, hoi] at h3
      simp only [Option.some.injEq] at h3
      omega
    · exact ⟨g, h3⟩
  obtain ⟨bk, e1, e2⟩ := hb.acct hc
  have hlen : (fr m.own).length = m.own.length := by simp [fr]
  have hput := fun W (hM : Mk.MI W mz mg (fr m.own)) => Mk.put_m (i : Int) (WalkArith.wf_i64 (by have := hok.n2; omega)) W hM
  rw [Mk.puB_nat i (by rw [hlen]; exact hi), fr_free m.own i] at hput
  have hlook := fun W (hW : MapP Tryd.prog 3 W mb A.length (am A)) => hW.get (t := 89) Tryd.underlying89 Tryd.underlying3 (zero_acct W) x hx
  rw [e1] at hlook
  simp only [pv] at hlook
  obtain ⟨m1, m2⟩ := give_mid hb e2 hGi
  have ap := hb.ap
  have hxx := ap.x
  simp only [List.nodup_cons, List.mem_cons, List.not_mem_nil, or_false, not_or] at hxx
  have hbk := ap.a bk (List.mem_map.2 ⟨_, e2, rfl⟩)
  have q0 := cell_block hb.hp 0
  have q1 := cell_block hb.hp 1
  have ko := hb.ho.cell i (by rw [ints_len]; exact hi)
  have kfo := hb.ho.fr i
  have kb := hb.hb.cell i (by rw [List.length_map, hb.hG]; exact hi)
  have kfb := hb.hb.fr i
  have hob : ob ≠ bb := by omega
  have hA := hb.ho.set i (.int .i64 (-1))
  have hA2 := hb.hb.other (b := ob) hob i (.int .i64 (-1))
  have hB := hb.ho.other (b := bb) (fun e => hob e.symm) i (.slice none 0 0)
  have so := hB.cell i (by rw [ints_len]; exact hi)
  have sfo := hB.fr i
  have sb := hA2.cell i (by rw [List.length_map, hb.hG]; exact hi)
  have sfb := hA2.fr i
  obtain ⟨vo, hvo⟩ : ∃ vo, (i64s m.own)[i]'(by rw [ints_len]; exact hi) = vo := ⟨_, rfl⟩
  obtain ⟨vb, hvb⟩ : ∃ vb, (G.map (gv m.size))[i]'(by rw [List.length_map, hb.hG]; exact hi) = vb := ⟨_, rfl⟩
  rw [hvo] at ko so
  rw [hvb] at kb sb
  have hp1 := (block_setOther (i := i) (show p ≠ ob by omega) (.int .i64 (-1))).trans hb.hp
  have hp2 := (block_setOther (i := i) (show p ≠ bb by omega) (.slice none 0 0)).trans hb.hp
  have t0 := cell_block (show _ = some (Obj.cells _ _ _) from hp1) 0
  have t1 := cell_block (show _ = some (Obj.cells _ _ _) from hp1) 1
  have u0 := cell_block (show _ = some (Obj.cells _ _ _) from hp2) 0
  have u1 := cell_block (show _ = some (Obj.cells _ _ _) from hp2) 1
  obtain ⟨n, hn⟩ : ∃ n, m.own.length = n := ⟨_, rfl⟩
  simp only [hn, List.getElem?_toArray, List.getElem?_cons_zero, List.getElem?_cons_succ] at q0 q1 t0 t1 u0 u1
  have hni : i < n := by omega
  have hn2 := hok.n2
  rw [hn] at hn2
  have hob2 : ob ≠ p := by omega
  have hbb2 : bb ≠ p := by omega
  have hhl := held_le m.own x
  have hul := used_le m.own
  rw [hn] at hhl hul
  have HH := Lib.hid hh
  have HPut := Lib.hid hput
  have HLook := Lib.hid hlook
  have HM1 := Lib.hid m1
  have HM2 := Lib.hid m2
  have HBB := Lib.hid hb
  have HN := Lib.hid (And.intro hn (And.intro he (And.intro hok (And.intro hx0 (And.intro hGi (And.intro hoi (And.intro hbk hxx)))))))
  have HE2 := Lib.hid e2
  clear hh h hs hnil hc hb0 hb hput hlook m1 m2 ap hxx hA hA2 hB hvo hvb hp1 hp2 hok hx hx0 hGi e1 e2 hlen hn he hoi hbk
  go_enter Tryd.func14, Tryd.ntmps14
  go_wp2_with (go_at_call 52; (with_reducible refine HH.out.mono ?_); rintro e w2 ⟨rfl, rfl⟩)
  go_cut [] (fun W => GvM w W p ob oc bb mz mg mb bk m.size m.own.length i m.own (m.own.set i (-1)) G (used m.own : Int) c (held m.own x : Int))
  case first =>
    go_region
    all_goals go_wp2
    all_goals go_meet
    all_goals (first | exact HM1.out | exact HM2.out)
  case rest =>
    clear q0 q1 ko kfo kb kfb so sfo sb sfb t0 t1 u0 u1
    have k2 := cell_block hcut.hp 2
    obtain ⟨hbk, hxx⟩ := HN.out.2.2.2.2.2.2
    have HCut := Lib.hid hcut
    clear hcut
    have hns : ∀ k, k ≠ mg → k ∉ [mg] := fun k hk => by simpa using hk
    go_wp2_with fail
    with_reducible refine (HPut.out _ HCut.out.hm).mono ?_
    rintro e w3 ⟨rfl, hMI, hM3⟩
    have hp3 := (hM3.block p (block_lt HCut.out.hp) (hns _ (by omega))).trans HCut.out.hp
    have hk3 := (hM3.block bk (block_lt HCut.out.hk) (hns _ hbk.2.2.2.2.1)).trans HCut.out.hk
    have hmap := (HBB.out.hM.mod HCut.out.hM (by simp; omega)).mod hM3 (hns _ (by omega))
    have hl3 := HLook.out w3 hmap
    have k3 := cell_block hp3 3
    have hpb : p ≠ bk := fun e => hbk.1 e.symm
    have hadd := At.add_c bk 1 (held m.own x : Int) (-1) ((held m.own x : Int) - 1) w3 (cell_block hk3 1) (frozen_block hk3 1) rfl (by omega) (by omega)
    have hp4 := (block_setOther (i := 1) hpb (.int .i64 ((held m.own x : Int) - 1))).trans hp3
    have hadd2 := At.add_c p 5 (used m.own : Int) (-1) ((used m.own : Int) - 1) (w3.setCell ⟨bk, 1, none⟩ (.int .i64 ((held m.own x : Int) - 1))) (cell_block hp4 5) (frozen_block hp4 5) rfl (by omega) (by omega)
    have hM5 : Mod [bk, p] w3 ((w3.setCell ⟨bk, 1, none⟩ (.int .i64 ((held m.own x : Int) - 1))).setCell ⟨p, 5, none⟩ (.int .i64 ((used m.own : Int) - 1))) := ((Mod.refl [bk, p] w3).setCell (.inl (by simp)) _).setCell (.inl (by simp)) _
    have hno : ∀ k, k ≠ bk → k ≠ p → k ∉ [bk, p] := fun k h1 h2 => by simp [h1, h2]
    have hp5 : ((w3.setCell ⟨bk, 1, none⟩ (.int .i64 ((held m.own x : Int) - 1))).setCell ⟨p, 5, none⟩ (.int .i64 ((used m.own : Int) - 1))).heap[p]? = _ := block_setCell hp4 (i := 5) (.int .i64 ((used m.own : Int) - 1))
    have hk5 : ((w3.setCell ⟨bk, 1, none⟩ (.int .i64 ((held m.own x : Int) - 1))).setCell ⟨p, 5, none⟩ (.int .i64 ((used m.own : Int) - 1))).heap[bk]? = _ := (block_setOther (i := 5) (fun e => hpb e.symm) (.int .i64 ((used m.own : Int) - 1))).trans (block_setCell hk3 (i := 1) (.int .i64 ((held m.own x : Int) - 1)))
    obtain ⟨W5, hW5⟩ : ∃ W5, (w3.setCell ⟨bk, 1, none⟩ (.int .i64 ((held m.own x : Int) - 1))).setCell ⟨p, 5, none⟩ (.int .i64 ((used m.own : Int) - 1)) = W5 := ⟨_, rfl⟩
    rw [hW5] at hp5 hk5 hM5
    have hMall : Mod [p, ob, bb, mg, bk] w W5 := ((HCut.out.hM.sub (by simp)).trans hM3 (by simp)).trans hM5 (by simp)
    have ho5 := (HCut.out.ho.mod hM3 (hns _ (by omega))).mod hM5 (hno _ (fun e => hbk.2.1 e.symm) (by omega))
    have hb5 := (HCut.out.hb.mod hM3 (hns _ (by omega))).mod hM5 (hno _ (fun e => hbk.2.2.1 e.symm) (by omega))
    have hm5 := hMI.mod hM5 (hno _ (fun e => hbk.2.2.2.1 e.symm) (by omega)) (hno _ (fun e => hbk.2.2.2.2.1 e.symm) (by omega))
    have hfin := give_fin HBB.out HN.out.2.2.1 HN.out.2.1 HE2.out hi HN.out.2.2.2.2.2.1 HN.out.2.2.2.2.1 HN.out.2.2.2.1 hMall hp5 ho5 hb5 hm5 hk5
    have HAd := Lib.hid hadd
    have HAd2 := Lib.hid hadd2
    have HFin := Lib.hid hfin
    have HW5 := Lib.hid hW5
    simp only [List.getElem?_toArray, List.getElem?_cons_zero, List.getElem?_cons_succ] at k3
    clear hadd hadd2 hfin hW5 hp5 hk5 hM5 hMall ho5 hb5 hm5 hp4 hp3 hk3 hmap hMI hM3 k2 hbk hxx hpb hns hno HBB HN HE2 HCut HM1 HM2
    go_wp2_with fail
    with_reducible refine HAd.out.mono ?_
    rintro e w5 ⟨rfl, rfl⟩
    go_wp2_with fail
    with_reducible refine HAd2.out.mono ?_
    rintro e w6 ⟨rfl, rfl⟩
    go_wp2
    go_ret
    rw [HW5.out]
    obtain ⟨L', h1, h2, h3⟩ := HFin.out
    exact ⟨L', rfl, h1, h2, h3⟩
end Po
end Go.Proofs.YtpjimmdpcpcmoaaDoor
