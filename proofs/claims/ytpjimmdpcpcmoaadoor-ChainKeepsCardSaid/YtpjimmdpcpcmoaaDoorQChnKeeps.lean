/- dofferlaw31.ChainKeeps. Conditions: the sentinels, and the table of TrailingZeros64, read as laid. -/
import Derived.Test.YtpjimmdpcpcmoaaDoorQChnBegin
import Derived.Deep.RegionHeld3
import Derived.BigQuiet
import Derived.Deep.CutBlock
namespace Go.Proofs.YtpjimmdpcpcmoaaDoor
open Go Go.RowKit Kt
namespace Ch
open Po
variable {w0 wb w w' w2 w3 W W' : World} {K K' : List Nat} {p x y : Nat} {L L' Sx Sy : List Nat} {m m' : Md} {lx ly : List Nat} {cx cy cx' : Cn} {qx qy n s : Nat}
/-- Where a round of ChainKeeps stands: the row of all bytes in the block g. -/
def KpS (w0 : World) (p x y A C B S J : Nat) (v8 v9 : Value) (W : World) : Prop :=
  ∃ (cx cy : Cn) (la : List UInt8) (g cap went : Nat), v8 = .slice (some ⟨g, 0, none⟩) la.length cap ∧ v9 = .int .i64 (went : Int) ∧ W.ownsRow w0.heap.size 5 1 (.slice (some ⟨g, 0, none⟩) la.length cap) la.length (u8s la) ∧ went ≤ la.length ∧ cx.all = la.drop went ∧ la.length ≤ J ∧ cx.came ≤ J ∧ cx.acc = 1 ∧ TwX w0 W p x y cx cy A C B S [g]
/-- Where the loop of ChainKeeps stands. -/
def KpR (w0 : World) (p x y A C B S N : Nat) (v8 v9 i : Value) (W : World) : Prop := ∃ j : Nat, j ≤ N ∧ i = .int .i64 (j : Int) ∧ KpS w0 p x y A C B S (200 * j) v8 v9 W
theorem need_mul {s f n : Nat} (hs : 0 < s) (hf : f < s) : need s f n * s < n + 2 * s := by
  unfold need
  split
  · omega
  · have h1 := Nat.div_mul_le_self (f + n - 1) s
    rw [Nat.add_mul, Nat.one_mul]
    omega
theorem optAdd (a : Option Addr) : Option.map (fun x : Addr => x.add 0) a = a := by
  cases a with
  | none => rfl
  | some p => simp [Addr.add]
set_option maxRecDepth 100000 in
set_option maxHeartbeats 8000000 in
theorem keeps_c (E : Nat → Addr) (z0 z1 z2 z3 : Int) (a : Option Addr) (cap : Nat) (l : List AcC) (w : World) (hl : l.length ≤ 9223372036854775807) (hr : Rd w a (l.flatMap ac4)) (hok : ∀ x ∈ l, x.ok w) (hT : Bt.Tab w) (hs : Sent 169 w E Er.egs) :
    Calls Tryd.prog 6 #[.agg #[.int .i64 z0, .int .i64 z1, .int .i64 z2, .int .i64 z3], .slice a l.length cap] w fun e w' => e = .returned (.bool true) ∧ Below w.heap.size w w' := by
  obtain ⟨wb, hwb⟩ : ∃ wb, w.alloc (.cells #[.int .i64 z0, .int .i64 z1, .int .i64 z2, .int .i64 z3] 65 (0, 0)) = wb := ⟨_, rfl⟩
  have hBb : Below w.heap.size w wb := by rw [← hwb]; exact (Below.refl _ _).alloc (Nat.le_refl _) _
  have hbl : wb.heap[w.heap.size]? = some (.cells #[.int .i64 z0, .int .i64 z1, .int .i64 z2, .int .i64 z3] 65 (0, 0)) := by rw [← hwb]; exact World.alloc_heap_new w _
  have hal := alive_c E wb (hT.below hBb) (hs.keep hBb)
  have hlg := fun W (hb : Below w.heap.size w W) => long_c a cap l W hl (hr.keep hb) (fun x hx => by have h1 := hok x hx; have h2 := h1.2.2.1; have h3 := h1.2.2.2.1; unfold maxLen at h3; omega)
  obtain ⟨N, hN⟩ : ∃ N, l.length = N := ⟨_, rfl⟩
  rw [hN] at hlg hl ⊢
  obtain ⟨qz, hqz⟩ : ∃ q, w.heap.size = q := ⟨_, rfl⟩
  have hqb : qz < wb.heap.size := by rw [← hqz]; exact block_lt hbl
  rw [hqz] at hbl
  have HQ := Lib.hid (And.intro hqz hqb)
  have HAl := Lib.hid hal
  have HLg := Lib.hid hlg
  have HWb := Lib.hid hwb
  have HBb := Lib.hid hBb
  have HBl := Lib.hid hbl
  have HT := Lib.hid hT
  have HS := Lib.hid hs
  have HR := Lib.hid hr
  have HOk := Lib.hid hok
  have HN := Lib.hid hN
  clear hwb hBb hbl hal hlg hT hs hr hok hN hqb
  go_enter Tryd.func6, Tryd.ntmps6
  go_wp2_with fail
  rw [HWb.out]
  with_reducible refine HAl.out.mono ?_
  rintro e w1 ⟨rfl, hb1⟩
  have HB1 := Lib.hid (HBb.out.trans (hb1.mono HBb.out.size))
  have HX1 := Lib.hid hb1
  clear hb1 HAl
  go_wp2_with fail
  with_reducible refine (HLg.out _ HB1.out).mono ?_
  rintro e w2 ⟨rfl, hb2⟩
  have HB2 := Lib.hid (HB1.out.trans (hb2.mono HB1.out.size))
  have HX2 := Lib.hid (HX1.out.trans (hb2.mono HX1.out.size))
  clear hb2 HLg HX1 HB1
  cases hlg : lg l with
  | true =>
    go_wp2
    go_ret
    exact ⟨rfl, HB2.out⟩
  | false =>
    have HLn := Lib.hid (lg_no hlg)
    clear hlg
    have hb2l := (HX2.out.block qz HQ.out.2).trans HBl.out
    have k0 := cell_block hb2l 0
    have k1 := cell_block hb2l 1
    have k2 := cell_block hb2l 2
    have k3 := cell_block hb2l 3
    simp only [List.getElem?_toArray, List.getElem?_cons_zero, List.getElem?_cons_succ] at k0 k1 k2 k3
    subst hqz
    clear hb2l
    go_wp2_with fail
    with_reducible refine (within_c z0 z1 z2 z3 w2).mono ?_
    rintro e w3 ⟨B, S, A, C, rfl, b1, b2, s1, s2, a1, a2, c1, c2, hb3⟩
    have hX3 := HX2.out.trans (hb3.mono HX2.out.size)
    have hB3 := HB2.out.trans (hb3.mono HB2.out.size)
    have hb3l := (hX3.block _ HQ.out.2).trans HBl.out
    have d0 := cell_block hb3l 0
    have d1 := cell_block hb3l 1
    have d2 := cell_block hb3l 2
    have d3 := cell_block hb3l 3
    have g0 := frozen_block hb3l 0
    have g1 := frozen_block hb3l 1
    have g2 := frozen_block hb3l 2
    have g3 := frozen_block hb3l 3
    simp only [List.getElem?_toArray, List.getElem?_cons_zero, List.getElem?_cons_succ] at d0 d1 d2 d3
    obtain ⟨wz, hwz⟩ : ∃ wz, (((w3.setCell ⟨w.heap.size, 0, none⟩ (.int .i64 (B : Int))).setCell ⟨w.heap.size, 1, none⟩ (.int .i64 (S : Int))).setCell ⟨w.heap.size, 2, none⟩ (.int .i64 (A : Int))).setCell ⟨w.heap.size, 3, none⟩ (.int .i64 (C : Int)) = wz := ⟨_, rfl⟩
    have hzl : wz.heap[w.heap.size]? = some (.cells #[.int .i64 (B : Int), .int .i64 (S : Int), .int .i64 (A : Int), .int .i64 (C : Int)] 65 (0, 0)) := by
      rw [← hwz]
      exact block_setCell (block_setCell (block_setCell (block_setCell hb3l _) _) _) _
    have hBz : Below w.heap.size w wz := by
      rw [← hwz]
      exact (((hB3.setCell (Nat.le_refl _) _).setCell (Nat.le_refl _) _).setCell (Nat.le_refl _) _).setCell (Nat.le_refl _) _
    have m0 := cell_block hzl 0
    have m1 := cell_block hzl 1
    have m2 := cell_block hzl 2
    have m3 := cell_block hzl 3
    simp only [List.getElem?_toArray, List.getElem?_cons_zero, List.getElem?_cons_succ] at m0 m1 m2 m3
    rw [← hwz] at m0 m1 m2 m3
    have HZ := Lib.hid (And.intro hwz (And.intro hzl hBz))
    have HBg := Lib.hid (begin_c B S A C b1 b2 s1 s2 a1 a2 c1 c2 wz wz (Below.refl _ _))
    have HNum := Lib.hid (And.intro b1 (And.intro b2 (And.intro s1 (And.intro s2 (And.intro a1 (And.intro a2 (And.intro c1 c2)))))))
    clear k0 k1 k2 k3 hb3 hX3 hB3 hb3l hwz hzl hBz b1 b2 s1 s2 a1 a2 c1 c2
    go_wp2_with fail
    rw [HZ.out.1]
    with_reducible refine HBg.out.mono ?_
    rintro e w4 ⟨p, x, y, rfl, hTw⟩
    have HTw := Lib.hid hTw
    have hsz : w.heap.size < wz.heap.size := block_lt HZ.out.2.1
    have HSz := Lib.hid hsz
    clear hTw d0 d1 d2 d3 g0 g1 g2 g3 m0 m1 m2 m3 HBg hsz HX2 HB2 HBb HBl HWb
    go_wp2_with fail
    have hzc : ∀ W, Below wz.heap.size wz W → W.cell? ⟨w.heap.size, 0, none⟩ = some (.int .i64 (B : Int)) ∧ W.cell? ⟨w.heap.size, 1, none⟩ = some (.int .i64 (S : Int)) ∧ W.cell? ⟨w.heap.size, 2, none⟩ = some (.int .i64 (A : Int)) ∧ W.cell? ⟨w.heap.size, 3, none⟩ = some (.int .i64 (C : Int)) := fun W hb => by
      have h1 := (hb.block _ HSz.out).trans HZ.out.2.1
      exact ⟨cell_block h1 0, cell_block h1 1, cell_block h1 2, cell_block h1 3⟩
    have HZC := Lib.hid hzc
    have HSz' := Lib.hid (HS.out.keep HZ.out.2.2)
    have HTz := Lib.hid (HT.out.below HZ.out.2.2)
    clear hzc
    have hB4 := HTw.out.B
    have hrow := World.ownsRow_made (base := wz.heap.size) (e := 5) (size := 1) w4 #[] 0 hB4.size (by decide) rfl
    have hTw0 : TwX wz (w4.alloc (.cells #[] 5)) p x y ⟨1, 0, [], 0, 0⟩ ⟨2, 0, [], 0, 0⟩ A C B S [w4.heap.size] := HTw.out.other (M := []) (Mod.of_below ((Below.refl _ _).alloc (Nat.le_refl _) _) []) (by simp) (fun q hq => by simp only [List.mem_singleton] at hq; subst hq; exact ⟨.inr (Nat.le_refl _), by simp⟩) (by simp)
    have HRow := Lib.hid (And.intro hrow hTw0)
    clear hrow hTw0 hB4
    go_loopw [8, 9, 11, 12, 13, 14, 15, 33] (fun v8 v9 _ _ _ _ _ i W => KpR wz p x y A C B S N v8 v9 i W) (fun _ _ _ _ _ _ _ i _ => N - (cj i).toNat)
    case atStart => exact ⟨0, Nat.zero_le _, rfl, _, _, [], w4.heap.size, 0, 0, rfl, rfl, HRow.out.1, Nat.le_refl _, rfl, Nat.le_refl _, Nat.le_refl _, rfl, HRow.out.2⟩
    case round =>
      clear HRow HTw
      obtain ⟨j, hj, rfl, cx, cy, la, g, cap, went, rfl, rfl, hown, hwl, hdr, hlj, hcx, hax, hTw⟩ := hrel
      have hN60 := HLn.out.1
      rw [HN.out] at hN60
      by_cases hjN : j < N
      · have hjl : j < l.length := by rw [HN.out]; exact hjN
        obtain ⟨b, off, ha, hcs⟩ := (HR.out.keep (HZ.out.2.2.trans (hTw.B.mono HZ.out.2.2.size))).struct 4 (by intro z _; rfl) j hjl (by omega)
        have k0 := hcs 0 _ rfl (by omega)
        have k1 := hcs 1 _ rfl (by omega)
        have k2 := hcs 2 _ rfl (by omega)
        have k3 := hcs 3 _ rfl (by omega)
        have hmem := List.getElem_mem hjl
        have hao := HOk.out _ hmem
        have hbl := HLn.out.2 _ hmem
        clear hcs hmem
        subst ha
        generalize l[j] = act at *
        obtain ⟨kd, nn, aa, bs, cp, wh⟩ := act
        simp only [Nat.add_zero] at k0 k1 k2 k3 hbl
        rw [← Nat.add_assoc] at k1 k2 k3
        have hrd : Rd wz aa (u8s bs) := hao.1.keep HZ.out.2.2
        obtain ⟨mm, hmm⟩ : ∃ m, bs.length = m := ⟨_, rfl⟩
        rw [hmm] at k2 hbl
        have hB5 := (Below.refl wr.heap.size wr).alloc (Nat.le_refl _) (.cells #[.int .i64 kd, .int .i64 nn, .slice aa mm cp, .bool wh] 72 (0, 0))
        have hs5 := heap_alloc_new wr (.cells #[.int .i64 kd, .int .i64 nn, .slice aa mm cp, .bool wh] 72 (0, 0))
        obtain ⟨W5, hW5⟩ : ∃ W5, wr.alloc (.cells #[.int .i64 kd, .int .i64 nn, .slice aa mm cp, .bool wh] 72 (0, 0)) = W5 := ⟨_, rfl⟩
        rw [hW5] at hs5 hB5
        have hT5 : TwX wz W5 p x y cx cy A C B S [wr.heap.size, g] := hTw.other (M := []) (Mod.of_below hB5 []) (by simp) (fun q hq => by
          simp only [List.mem_cons, List.not_mem_nil, or_false] at hq
          rcases hq with rfl | rfl
          · exact ⟨.inr (Nat.le_refl _), block_lt hs5⟩
          · exact ⟨.inl (by simp), Nat.lt_of_lt_of_le (hown.lt _ rfl).2 hB5.size⟩) (by simp)
        have hown5 := own_keep hown hB5
        have q0 := cell_block hs5 0
        have q1 := cell_block hs5 1
        simp only [List.getElem?_toArray, List.getElem?_cons_zero, List.getElem?_cons_succ] at q0 q1
        rw [← hW5] at q0 q1
        have HW5 := Lib.hid hW5
        have HO := Lib.hid (And.intro hT5 (And.intro hown5 (And.intro hs5 (And.intro hrd hmm))))
        have HF := Lib.hid (And.intro hwl (And.intro hdr (And.intro hlj (And.intro hcx hax))))
        have hnl : la.length ≤ 12000 := by omega
        have HCp := Lib.hid hao.2.1
        have HCp2 := Lib.hid (And.intro (hmm ▸ hao.2.2.1) hao.2.2.2.1)
        clear hT5 hown5 hs5 hrd hown hTw hao hB5 hW5
        go_upto_if 39 with (fail)
        go_cut [8, 9] (fun v8 v9 W => KpS wz p x y A C B S (200 * (j + 1)) v8 v9 W)
        case first =>
          as_aux_lemma =>
          by_cases hk1 : kd = 1
          · as_aux_lemma =>
            subst hk1
            obtain ⟨n9, hn9, hn9l⟩ := low nn 9 (by omega) (by omega)
            have hlen : cx.all.length = la.length - went := by rw [HF.out.2.1, List.length_drop]
            have hdp := HO.out.1.drop E (n9 : Int) HSz'.out (by have := HF.out.2.2.2.1; omega)
            rw [hlen, Int.toNat_natCast] at hdp
            have hxd : (drp S cx n9).all = la.drop (went + n9) := by simp only [drp]; rw [HF.out.2.1, List.drop_drop]
            have hown6 := fun W (hS : Stay [wr.heap.size, g] W5 W) => hS.elim (fun M hM => own_mod HO.out.2.1 hM.1 (fun k hk => hM.2 k (by simp [Value.ownBlock] at hk; simp [hk])))
            have HD := Lib.hid hdp
            have HOw := Lib.hid hown6
            have HXd := Lib.hid hxd
            have hlz : ((la.length - went : Nat) : Int) = (la.length : Int) - (went : Int) := by have := HF.out.1; omega
            have hwl2 := HF.out.1
            clear hdp hown6 hxd hlen k0 k1 k2 k3
            by_cases hle : n9 ≤ la.length - went
            · rw [if_pos (by omega), if_pos (by omega), show ee E 0 = Value.nilIface from rfl] at HD
              have hwr1 : (went : Int) + (n9 : Int) = ((went + n9 : Nat) : Int) := by omega
              have HWr := Lib.hid hwr1
              clear hwr1
              go_wp2_with fail
              rw [HW5.out]
              with_reducible refine HD.out.mono ?_
              rintro e w6 ⟨rfl, hT6, hS6⟩
              have H6 := Lib.hid (And.intro (hT6.keep (K' := [g]) (by simp)) (HOw.out _ hS6))
              clear hT6 hS6 HD HOw
              go_wp2_with fail
              go_meet
              case rel => first | exact ⟨drp S cx n9, cy, la, g, cap, went + n9, rfl, by rw [← HWr.out], H6.out.2, by omega, HXd.out, by have := HF.out.2.2.1; omega, by simp only [drp]; have := HF.out.2.2.2.1; omega, HF.out.2.2.2.2, H6.out.1⟩ | ((repeat apply Exists.intro); refine ⟨?r, ?f⟩; (case f => (and_intros <;> rfl)); exact ⟨drp S cx n9, cy, la, g, cap, went + n9, rfl, by rw [← HWr.out], H6.out.2, by omega, HXd.out, by have := HF.out.2.2.1; omega, by simp only [drp]; have := HF.out.2.2.2.1; omega, HF.out.2.2.2.2, H6.out.1⟩)
            · rw [if_neg (by omega), if_neg (by omega)] at HD
              obtain ⟨qe, hqe⟩ := ee_some E (show (1 : Int) ≠ 0 by decide)
              rw [hqe] at HD
              have hd1 : decide ((n9 : Int) ≤ (la.length : Int) - (went : Int)) = false := decide_eq_false (by omega)
              clear hqe
              go_wp2_with fail
              rw [HW5.out]
              with_reducible refine HD.out.mono ?_
              rintro e w6 ⟨rfl, hT6, hS6⟩
              have H6 := Lib.hid (And.intro (hT6.keep (K' := [g]) (by simp)) (HOw.out _ hS6))
              clear hT6 hS6 HD HOw
              go_wp2_with fail
              go_meet
              case rel => first | exact ⟨cx, cy, la, g, cap, went, rfl, rfl, H6.out.2, hwl2, HF.out.2.1, by have := HF.out.2.2.1; omega, by have := HF.out.2.2.2.1; omega, HF.out.2.2.2.2, H6.out.1⟩ | ((repeat apply Exists.intro); refine ⟨?r, ?f⟩; (case f => (and_intros <;> rfl)); exact ⟨cx, cy, la, g, cap, went, rfl, rfl, H6.out.2, hwl2, HF.out.2.1, by have := HF.out.2.2.1; omega, by have := HF.out.2.2.2.1; omega, HF.out.2.2.2.2, H6.out.1⟩)
          · as_aux_lemma =>
            have hkb1 : (kd == 1) = false := by simpa using hk1
            have hpu := HO.out.1.push E aa cp bs HSz'.out HTz.out (by have := HF.out.2.2.2.1; have := HO.out.2.2.2.2; omega) HO.out.2.2.2.1
            have hsp := (psh_spec (one S cx.frm A (need S cy.frm cy.all.length) B) bs.length cx.all.length).2
            generalize psh (one S cx.frm A (need S cy.frm cy.all.length) B) cx.all.length bs.length = r at *
            obtain ⟨k, er⟩ := r
            simp only at hsp hpu
            have hbs := HO.out.2.2.2.2
            have hcl := fun W (hS : Stay [wr.heap.size, g] W5 W) => (hS.block (q := wr.heap.size) (by simp) (block_lt HO.out.2.2.1)).trans HO.out.2.2.1
            have hown6 := fun W (hS : Stay [wr.heap.size, g] W5 W) => hS.elim (fun M hM => own_mod HO.out.2.1 hM.1 (fun k hk => hM.2 k (by simp [Value.ownBlock] at hk; simp [hk])))
            have hrdb := fun W (hb : Below wz.heap.size wz W) => (HO.out.2.2.2.1.keep hb).take k
            have happ : ∀ W, TwX wz W p x y (psd cx (bs.take k)) cy A C B S [wr.heap.size, g] → W.ownsRow wz.heap.size 5 1 (.slice (some ⟨g, 0, none⟩) la.length cap) la.length (u8s la) → k ≤ bs.length → ∃ g' cap' w', (Builtin.append_ #[54, 54] 54 #[.slice (some ⟨g, 0, none⟩) la.length cap, .slice aa k cp]).run Tryd.prog W = .ok (.slice (some ⟨g', 0, none⟩) (la.length + k) cap') w' ∧
                w'.ownsRow wz.heap.size 5 1 (.slice (some ⟨g', 0, none⟩) (la ++ bs.take k).length cap') (la ++ bs.take k).length (u8s (la ++ bs.take k)) ∧ TwX wz w' p x y (psd cx (bs.take k)) cy A C B S [g'] := fun W hT hO hk => by
              have hl : (u8s (bs.take k)).length = k * 1 := by simp [u8s]; omega
              have e : (la ++ bs.take k).length = la.length + k := by simp; omega
              have hrt : Rd W aa (u8s (bs.take k)) := by have h := (HO.out.2.2.2.1.keep hT.B).take k; simpa [u8s, List.map_take] using h
              by_cases hk0 : k = 0
              · subst hk0
                obtain ⟨_, ⟨hv, _⟩ | ⟨g', cap', cur, hv, h1, h2, h3, _⟩⟩ := id hO
                · cases hv
                · simp only [Value.slice.injEq, Option.some.injEq, Addr.mk.injEq, and_true] at hv
                  obtain ⟨rfl, _, rfl⟩ := hv
                  obtain ⟨w', r1, r2, r3⟩ := elB.fits wz.heap.size (ty := 54) hO 0 cp (by rw [hl]) hrt (fun h => ⟨HCp.out h, rfl⟩) (oneCell_u8s _) (by omega)
                  refine ⟨g, cap, w', r1, by rw [e, u8s_append]; exact r2, hT.other (M := [g]) (Mod.of_grown r3) (fun q hq => .inl (by simp at hq; simp [hq])) (fun q hq => ?_) (fun q hq => by simp at hq; subst hq; exact h1)⟩
                  simp only [List.mem_singleton] at hq
                  subst hq
                  exact ⟨.inl (by simp), (r2.lt _ rfl).2⟩
              · obtain ⟨g', cap', w', r1, r2, r3, r4, r5⟩ := elB.lies wz.heap.size (ty := 54) hO k cp (by rw [hl]) (by omega) hrt (oneCell_u8s _) (by unfold maxLen; omega) (by omega) hT.B.size
                refine ⟨g', cap', w', r1, by rw [e, u8s_append]; exact r2, hT.other (M := [g]) (Mod.of_grown r3) (fun q hq => .inl (by simp at hq; simp [hq])) (fun q hq => ?_) (fun q hq => by simp at hq; subst hq; exact (hO.lt _ rfl).1)⟩
                simp only [List.mem_singleton] at hq
                subst hq
                refine ⟨?_, r5⟩
                rcases r4 with h5 | h5
                · simp [Value.ownBlock] at h5
                  subst h5
                  exact .inl (by simp)
                · exact .inr (by omega)
            have hv0 : er = 0 → ee E er = .nilIface := fun h => by rw [h]; rfl
            have hv1 : er ≠ 0 → ∃ q, ee E er = .iface 169 (.pointer (some q)) := fun h => ee_some E h
            generalize ee E er = ev at *
            rw [hbs] at hpu hsp happ
            have HV := Lib.hid (And.intro hv0 hv1)
            have HP := Lib.hid hpu
            have HCl := Lib.hid hcl
            have HOw := Lib.hid hown6
            have HAp := Lib.hid happ
            have HSp := Lib.hid hsp
            have hkb : k ≤ mm := by rcases hsp with h1 | h1 <;> omega
            have hk0 : decide ((k : Int) < 0) = false := decide_eq_false (by omega)
            have hkm : decide ((mm : Int) < (k : Int)) = false := decide_eq_false (by omega)
            have hcl5 := hcl W5 (Stay.refl _ _)
            have k2' := cell_block hcl5 2
            simp only [List.getElem?_toArray, List.getElem?_cons_zero, List.getElem?_cons_succ] at k2'
            rw [← HW5.out] at k2'
            clear hpu hcl hown6 hrdb happ hv0 hv1 hsp hcl5 k0 k1 k2 k3
            go_wp2_with fail
            rw [HW5.out]
            with_reducible refine HP.out.mono ?_
            rintro e w6 ⟨rfl, hT6, hS6⟩
            have hc6 := HCl.out w6 hS6
            have r2 := cell_block hc6 2
            simp only [List.getElem?_toArray, List.getElem?_cons_zero, List.getElem?_cons_succ] at r2
            have hown6 := HOw.out w6 hS6
            obtain ⟨g', cap', w8, hrun, hown8, hT8⟩ := HAp.out w6.drew (hT6.below (Below.refl _ _).drew) (own_keep hown6 (Below.refl _ _).drew) hkb
            have HQ := Lib.hid r2
            have H8 := Lib.hid (And.intro hown8 (And.intro hT8 (HF.out)))
            have hle2 : (la ++ bs.take k).length = la.length + k := by simp; omega
            have HL2 := Lib.hid hle2
            have hcpb : mm ≤ cp := by have := HCp2.out.1; omega
            have hcpm : cp ≤ 9223372036854775807 := by have := HCp2.out.2; unfold maxLen at this; omega
            have ho0 := optAdd aa
            have hki : (k : Int) ≤ (cp : Int) := by omega
            clear r2 hown6 hT6 hS6 hc6 hown8 hT8 k2' HP HCl HOw HAp hle2
            by_cases he : er = 0
            · obtain rfl := HV.out.1 he
              have hkmm : k = mm := by rcases HSp.out with h1 | h1; exact h1.1; exact absurd he h1.2.1
              subst hkmm
              go_wp2_with fail
              refine wp_region_noPanic ?_
              refine wp_region_held_drew (S := fun W => W.cell? ⟨wr.heap.size, 2, none⟩ = some (.slice aa k cp)) (by kernel_rfl) (HQ.out) (fun hHeld => ?_)
              (refine wpAnyH_take (i := 0) (v := ?v0n1) (by simp only [List.getElem?_toArray, List.getElem?_cons_succ, List.getElem?_cons_zero]; rfl) (by kernel_rfl) (by kernel_rfl) (by kernel_rfl) (fun _ _ _ h => False.elim h) (Or.inl ⟨by rfl, ?hy0n1⟩) (by assumption) ?rest0n1; (case hy0n1 => (intro w hSw; (try dsimp only at hSw); go_simp; (try with_reducible rfl))); (try simp only [Act.put, List.setIfInBounds_toArray, List.set_cons_zero, List.set_cons_succ]))
              (refine wpAnyH_take (i := 1) (v := ?v1n2) (by simp only [List.getElem?_toArray, List.getElem?_cons_succ, List.getElem?_cons_zero]; rfl) (by kernel_rfl) (by kernel_rfl) (by kernel_rfl) (fun _ _ _ h => False.elim h) (Or.inl ⟨by rfl, ?hy1n2⟩) (by assumption) ?rest1n2; (case hy1n2 => (intro w hSw; (try dsimp only at hSw); go_simp; (try with_reducible rfl))); (try simp only [Act.put, List.setIfInBounds_toArray, List.set_cons_zero, List.set_cons_succ]))
              (refine wpAnyH_take (i := 2) (v := ?v2n3) (by simp only [List.getElem?_toArray, List.getElem?_cons_succ, List.getElem?_cons_zero]; rfl) (by kernel_rfl) (by kernel_rfl) (by kernel_rfl) (fun _ _ _ h => False.elim h) (Or.inl ⟨by rfl, ?hy2n3⟩) (by assumption) ?rest2n3; (case hy2n3 => (intro w hSw; (try dsimp only at hSw); go_simp; (try with_reducible rfl))); (try simp only [Act.put, List.setIfInBounds_toArray, List.set_cons_zero, List.set_cons_succ]))
              (refine wpAnyH_take (i := 3) (v := ?v3n4) (by simp only [List.getElem?_toArray, List.getElem?_cons_succ, List.getElem?_cons_zero]; rfl) (by kernel_rfl) (by kernel_rfl) (by kernel_rfl) (fun _ _ _ h => False.elim h) (Or.inl ⟨by rfl, ?hy3n4⟩) (by assumption) ?rest3n4; (case hy3n4 => (intro w hSw; (try dsimp only at hSw); go_simp; (try with_reducible rfl))); (try simp only [Act.put, List.setIfInBounds_toArray, List.set_cons_zero, List.set_cons_succ]))
              (refine wpAnyH_take (i := 4) (v := ?v4n5) (by simp only [List.getElem?_toArray, List.getElem?_cons_succ, List.getElem?_cons_zero]; rfl) (by kernel_rfl) (by kernel_rfl) (by kernel_rfl) (fun _ _ _ h => False.elim h) (Or.inl ⟨by rfl, ?hy4n5⟩) (by assumption) ?rest4n5; (case hy4n5 => (intro w hSw; (try dsimp only at hSw); go_simp; (try with_reducible rfl))); (try simp only [Act.put, List.setIfInBounds_toArray, List.set_cons_zero, List.set_cons_succ]))
              (refine wpAnyH_take (i := 5) (v := ?v5n6) (by simp only [List.getElem?_toArray, List.getElem?_cons_succ, List.getElem?_cons_zero]; rfl) (by kernel_rfl) (by kernel_rfl) (by kernel_rfl) (fun _ _ _ h => False.elim h) (Or.inl ⟨by rfl, ?hy5n6⟩) (by assumption) ?rest5n6; (case hy5n6 => (intro w hSw; (try dsimp only at hSw); go_simp; (try with_reducible rfl))); (try simp only [Act.put, List.setIfInBounds_toArray, List.set_cons_zero, List.set_cons_succ]))
              (refine wpAnyH_take (i := 6) (v := ?v6n7) (by simp only [List.getElem?_toArray, List.getElem?_cons_succ, List.getElem?_cons_zero]; rfl) (by kernel_rfl) (by kernel_rfl) (by kernel_rfl) (fun _ _ _ h => False.elim h) (Or.inl ⟨by rfl, ?hy6n7⟩) (by assumption) ?rest6n7; (case hy6n7 => (intro w hSw; (try dsimp only at hSw); go_simp; (try with_reducible rfl))); (try simp only [Act.put, List.setIfInBounds_toArray, List.set_cons_zero, List.set_cons_succ]))
              (refine wpAnyH_take (i := 7) (v := ?v7n8) (by simp only [List.getElem?_toArray, List.getElem?_cons_succ, List.getElem?_cons_zero]; rfl) (by kernel_rfl) (by kernel_rfl) (by kernel_rfl) (fun _ _ _ h => False.elim h) (Or.inl ⟨by rfl, ?hy7n8⟩) (by assumption) ?rest7n8; (case hy7n8 => (intro w hSw; (try dsimp only at hSw); go_simp; (try with_reducible rfl))); (try simp only [Act.put, List.setIfInBounds_toArray, List.set_cons_zero, List.set_cons_succ]))
              (refine wpAnyH_take (i := 8) (v := ?v8n9) (by simp only [List.getElem?_toArray, List.getElem?_cons_succ, List.getElem?_cons_zero]; rfl) (by kernel_rfl) (by kernel_rfl) (by kernel_rfl) (fun _ _ _ h => False.elim h) (Or.inl ⟨by rfl, ?hy8n9⟩) (by assumption) ?rest8n9; (case hy8n9 => (intro w hSw; (try dsimp only at hSw); go_simp; (try with_reducible rfl))); (try simp only [Act.put, List.setIfInBounds_toArray, List.set_cons_zero, List.set_cons_succ]))
              (refine wpAnyH_take (i := 9) (v := ?v9n10) (by simp only [List.getElem?_toArray, List.getElem?_cons_succ, List.getElem?_cons_zero]; rfl) (by kernel_rfl) (by kernel_rfl) (by kernel_rfl) (fun _ _ _ h => False.elim h) (Or.inl ⟨by rfl, ?hy9n10⟩) (by assumption) ?rest9n10; (case hy9n10 => (intro w hSw; (try dsimp only at hSw); go_simp; (try with_reducible rfl))); (try simp only [Act.put, List.setIfInBounds_toArray, List.set_cons_zero, List.set_cons_succ]))
              (refine wpAnyH_take (i := 10) (v := ?v10n11) (by simp only [List.getElem?_toArray, List.getElem?_cons_succ, List.getElem?_cons_zero]; rfl) (by kernel_rfl) (by kernel_rfl) (by kernel_rfl) (fun _ _ _ h => False.elim h) (Or.inl ⟨by rfl, ?hy10n11⟩) (by assumption) ?rest10n11; (case hy10n11 => (intro w hSw; (try dsimp only at hSw); go_simp; (try with_reducible rfl))); (try simp only [Act.put, List.setIfInBounds_toArray, List.set_cons_zero, List.set_cons_succ]))
              (refine wpAnyH_take (i := 11) (v := ?v11n12) (by simp only [List.getElem?_toArray, List.getElem?_cons_succ, List.getElem?_cons_zero]; rfl) (by kernel_rfl) (by kernel_rfl) (by kernel_rfl) (fun _ _ _ h => False.elim h) (Or.inl ⟨by rfl, ?hy11n12⟩) (by assumption) ?rest11n12; (case hy11n12 => (intro w hSw; (try dsimp only at hSw); go_simp; (try with_reducible rfl))); (try simp only [Act.put, List.setIfInBounds_toArray, List.set_cons_zero, List.set_cons_succ]))
              (refine wpAnyH_take (i := 12) (v := ?v12n13) (by simp only [List.getElem?_toArray, List.getElem?_cons_succ, List.getElem?_cons_zero]; rfl) (by kernel_rfl) (by kernel_rfl) (by kernel_rfl) (fun _ _ _ h => False.elim h) (Or.inl ⟨by rfl, ?hy12n13⟩) (by assumption) ?rest12n13; (case hy12n13 => (intro w hSw; (try dsimp only at hSw); go_simp; (try with_reducible rfl))); (try simp only [Act.put, List.setIfInBounds_toArray, List.set_cons_zero, List.set_cons_succ]))
              (refine wpAnyH_take (i := 13) (v := ?v13n14) (by simp only [List.getElem?_toArray, List.getElem?_cons_succ, List.getElem?_cons_zero]; rfl) (by kernel_rfl) (by kernel_rfl) (by kernel_rfl) (fun _ _ _ h => False.elim h) (Or.inl ⟨by rfl, ?hy13n14⟩) (by assumption) ?rest13n14; (case hy13n14 => (intro w hSw; (try dsimp only at hSw); go_simp; (try with_reducible rfl))); (try simp only [Act.put, List.setIfInBounds_toArray, List.set_cons_zero, List.set_cons_succ]))
              (refine wpAnyH_take (i := 14) (v := ?v14n15) (by simp only [List.getElem?_toArray, List.getElem?_cons_succ, List.getElem?_cons_zero]; rfl) (by kernel_rfl) (by kernel_rfl) (by kernel_rfl) (fun _ _ _ h => False.elim h) (Or.inl ⟨by rfl, ?hy14n15⟩) (by assumption) ?rest14n15; (case hy14n15 => (intro w hSw; (try dsimp only at hSw); go_simp; (try with_reducible rfl))); (try simp only [Act.put, List.setIfInBounds_toArray, List.set_cons_zero, List.set_cons_succ]))
              (refine wpAnyH_take (i := 15) (v := ?v15n16) (by simp only [List.getElem?_toArray, List.getElem?_cons_succ, List.getElem?_cons_zero]; rfl) (by kernel_rfl) (by kernel_rfl) (by kernel_rfl) (fun _ _ _ h => False.elim h) (Or.inl ⟨by rfl, ?hy15n16⟩) (by assumption) ?rest15n16; (case hy15n16 => (intro w hSw; (try dsimp only at hSw); go_simp; (try with_reducible rfl))); (try simp only [Act.put, List.setIfInBounds_toArray, List.set_cons_zero, List.set_cons_succ]))
              (refine wpAnyH_take (i := 16) (v := ?v16n17) (by simp only [List.getElem?_toArray, List.getElem?_cons_succ, List.getElem?_cons_zero]; rfl) (by kernel_rfl) (by kernel_rfl) (by kernel_rfl) (fun _ _ _ h => False.elim h) (Or.inl ⟨by rfl, ?hy16n17⟩) (by assumption) ?rest16n17; (case hy16n17 => (intro w hSw; (try dsimp only at hSw); go_simp; (try with_reducible rfl))); (try simp only [Act.put, List.setIfInBounds_toArray, List.set_cons_zero, List.set_cons_succ]))
              (refine wpAnyH_take (i := 17) (v := ?v17n18) (by simp only [List.getElem?_toArray, List.getElem?_cons_succ, List.getElem?_cons_zero]; rfl) (by kernel_rfl) (by kernel_rfl) (by kernel_rfl) (fun _ _ _ h => False.elim h) (Or.inl ⟨by rfl, ?hy17n18⟩) (by assumption) ?rest17n18; (case hy17n18 => (intro w hSw; (try dsimp only at hSw); go_simp; (try with_reducible rfl))); (try simp only [Act.put, List.setIfInBounds_toArray, List.set_cons_zero, List.set_cons_succ]))
              (refine wpAnyH_take (i := 18) (v := ?v18n19) (by simp only [List.getElem?_toArray, List.getElem?_cons_succ, List.getElem?_cons_zero]; rfl) (by kernel_rfl) (by kernel_rfl) (by kernel_rfl) (fun _ _ _ h => False.elim h) (Or.inl ⟨by rfl, ?hy18n19⟩) (by assumption) ?rest18n19; (case hy18n19 => (intro w hSw; (try dsimp only at hSw); go_simp; (try with_reducible rfl))); (try simp only [Act.put, List.setIfInBounds_toArray, List.set_cons_zero, List.set_cons_succ]))
              refine wpAnyH_done (by kernel_rfl) ?_ _
              refine NoPanic.normal ?_
              clear hHeld
              have r2 := HQ.out
              have hR : (w6.drew).cell? ⟨wr.heap.size, 2, none⟩ = some (.slice aa k cp) := r2
              obtain ⟨W7, hW7⟩ : ∃ W7, w6.drew = W7 := ⟨_, rfl⟩
              rw [hW7] at hR hrun ⊢
              clear r2 hW7
              go_wp2_with (at_builtin; (with_reducible apply wpList_append_run hrun); rfl; rfl; rfl; rfl; rfl)
              go_meet
              case rel => first | exact ⟨psd cx (bs.take k), cy, la ++ bs.take k, g', cap', went, by rw [HL2.out], rfl, H8.out.1, by rw [HL2.out]; have := HF.out.1; omega, by simp only [psd]; rw [HF.out.2.1, List.drop_append_of_le_length HF.out.1], by rw [HL2.out]; have := HF.out.2.2.1; omega, by simp only [psd, List.length_take]; have := HF.out.2.2.2.1; omega, HF.out.2.2.2.2, H8.out.2.1⟩ | ((repeat apply Exists.intro); refine ⟨?r, ?f⟩; (case f => (and_intros <;> rfl)); exact ⟨psd cx (bs.take k), cy, la ++ bs.take k, g', cap', went, by rw [HL2.out], rfl, H8.out.1, by rw [HL2.out]; have := HF.out.1; omega, by simp only [psd]; rw [HF.out.2.1, List.drop_append_of_le_length HF.out.1], by rw [HL2.out]; have := HF.out.2.2.1; omega, by simp only [psd, List.length_take]; have := HF.out.2.2.2.1; omega, HF.out.2.2.2.2, H8.out.2.1⟩)
            · obtain ⟨qe, rfl⟩ := HV.out.2 he
              have hkmm : k < mm := by rcases HSp.out with h1 | h1; exact absurd h1.2 he; exact h1.1
              have hkmb : ((k : Int) == (mm : Int)) = false := by simp; omega
              have hkmn : decide (mm < k) = false := decide_eq_false (by omega)
              have hkmq : (k == mm) = false := by simp; omega
              have hnlt : ¬ mm < k := by omega
              go_wp2_with fail
              refine wp_region_noPanic ?_
              refine wp_region_held_drew (S := fun W => W.cell? ⟨wr.heap.size, 2, none⟩ = some (.slice aa mm cp)) (by kernel_rfl) (HQ.out) (fun hHeld => ?_)
              (refine wpAnyH_take (i := 0) (v := ?v0n20) (by simp only [List.getElem?_toArray, List.getElem?_cons_succ, List.getElem?_cons_zero]; rfl) (by kernel_rfl) (by kernel_rfl) (by kernel_rfl) (fun _ _ _ h => False.elim h) (Or.inl ⟨by rfl, ?hy0n20⟩) (by assumption) ?rest0n20; (case hy0n20 => (intro w hSw; (try dsimp only at hSw); go_simp; (try with_reducible rfl))); (try simp only [Act.put, List.setIfInBounds_toArray, List.set_cons_zero, List.set_cons_succ]))
              (refine wpAnyH_take (i := 1) (v := ?v1n21) (by simp only [List.getElem?_toArray, List.getElem?_cons_succ, List.getElem?_cons_zero]; rfl) (by kernel_rfl) (by kernel_rfl) (by kernel_rfl) (fun _ _ _ h => False.elim h) (Or.inl ⟨by rfl, ?hy1n21⟩) (by assumption) ?rest1n21; (case hy1n21 => (intro w hSw; (try dsimp only at hSw); go_simp; (try with_reducible rfl))); (try simp only [Act.put, List.setIfInBounds_toArray, List.set_cons_zero, List.set_cons_succ]))
              (refine wpAnyH_take (i := 2) (v := ?v2n22) (by simp only [List.getElem?_toArray, List.getElem?_cons_succ, List.getElem?_cons_zero]; rfl) (by kernel_rfl) (by kernel_rfl) (by kernel_rfl) (fun _ _ _ h => False.elim h) (Or.inl ⟨by rfl, ?hy2n22⟩) (by assumption) ?rest2n22; (case hy2n22 => (intro w hSw; (try dsimp only at hSw); go_simp; (try with_reducible rfl))); (try simp only [Act.put, List.setIfInBounds_toArray, List.set_cons_zero, List.set_cons_succ]))
              (refine wpAnyH_take (i := 3) (v := ?v3n23) (by simp only [List.getElem?_toArray, List.getElem?_cons_succ, List.getElem?_cons_zero]; rfl) (by kernel_rfl) (by kernel_rfl) (by kernel_rfl) (fun _ _ _ h => False.elim h) (Or.inl ⟨by rfl, ?hy3n23⟩) (by assumption) ?rest3n23; (case hy3n23 => (intro w hSw; (try dsimp only at hSw); go_simp; (try with_reducible rfl))); (try simp only [Act.put, List.setIfInBounds_toArray, List.set_cons_zero, List.set_cons_succ]))
              (refine wpAnyH_take (i := 4) (v := ?v4n24) (by simp only [List.getElem?_toArray, List.getElem?_cons_succ, List.getElem?_cons_zero]; rfl) (by kernel_rfl) (by kernel_rfl) (by kernel_rfl) (fun _ _ _ h => False.elim h) (Or.inl ⟨by rfl, ?hy4n24⟩) (by assumption) ?rest4n24; (case hy4n24 => (intro w hSw; (try dsimp only at hSw); go_simp; (try with_reducible rfl))); (try simp only [Act.put, List.setIfInBounds_toArray, List.set_cons_zero, List.set_cons_succ]))
              (refine wpAnyH_take (i := 5) (v := ?v5n25) (by simp only [List.getElem?_toArray, List.getElem?_cons_succ, List.getElem?_cons_zero]; rfl) (by kernel_rfl) (by kernel_rfl) (by kernel_rfl) (fun _ _ _ h => False.elim h) (Or.inl ⟨by rfl, ?hy5n25⟩) (by assumption) ?rest5n25; (case hy5n25 => (intro w hSw; (try dsimp only at hSw); go_simp; (try with_reducible rfl))); (try simp only [Act.put, List.setIfInBounds_toArray, List.set_cons_zero, List.set_cons_succ]))
              (refine wpAnyH_take (i := 6) (v := ?v6n26) (by simp only [List.getElem?_toArray, List.getElem?_cons_succ, List.getElem?_cons_zero]; rfl) (by kernel_rfl) (by kernel_rfl) (by kernel_rfl) (fun _ _ _ h => False.elim h) (Or.inl ⟨by rfl, ?hy6n26⟩) (by assumption) ?rest6n26; (case hy6n26 => (intro w hSw; (try dsimp only at hSw); go_simp; (try with_reducible rfl))); (try simp only [Act.put, List.setIfInBounds_toArray, List.set_cons_zero, List.set_cons_succ]))
              (refine wpAnyH_take (i := 7) (v := ?v7n27) (by simp only [List.getElem?_toArray, List.getElem?_cons_succ, List.getElem?_cons_zero]; rfl) (by kernel_rfl) (by kernel_rfl) (by kernel_rfl) (fun _ _ _ h => False.elim h) (Or.inl ⟨by rfl, ?hy7n27⟩) (by assumption) ?rest7n27; (case hy7n27 => (intro w hSw; (try dsimp only at hSw); go_simp; (try with_reducible rfl))); (try simp only [Act.put, List.setIfInBounds_toArray, List.set_cons_zero, List.set_cons_succ]))
              (refine wpAnyH_take (i := 8) (v := ?v8n28) (by simp only [List.getElem?_toArray, List.getElem?_cons_succ, List.getElem?_cons_zero]; rfl) (by kernel_rfl) (by kernel_rfl) (by kernel_rfl) (fun _ _ _ h => False.elim h) (Or.inl ⟨by rfl, ?hy8n28⟩) (by assumption) ?rest8n28; (case hy8n28 => (intro w hSw; (try dsimp only at hSw); go_simp; (try with_reducible rfl))); (try simp only [Act.put, List.setIfInBounds_toArray, List.set_cons_zero, List.set_cons_succ]))
              (refine wpAnyH_take (i := 9) (v := ?v9n29) (by simp only [List.getElem?_toArray, List.getElem?_cons_succ, List.getElem?_cons_zero]; rfl) (by kernel_rfl) (by kernel_rfl) (by kernel_rfl) (fun _ _ _ h => False.elim h) (Or.inl ⟨by rfl, ?hy9n29⟩) (by assumption) ?rest9n29; (case hy9n29 => (intro w hSw; (try dsimp only at hSw); go_simp; (try with_reducible rfl))); (try simp only [Act.put, List.setIfInBounds_toArray, List.set_cons_zero, List.set_cons_succ]))
              (refine wpAnyH_take (i := 10) (v := ?v10n30) (by simp only [List.getElem?_toArray, List.getElem?_cons_succ, List.getElem?_cons_zero]; rfl) (by kernel_rfl) (by kernel_rfl) (by kernel_rfl) (fun _ _ _ h => False.elim h) (Or.inl ⟨by rfl, ?hy10n30⟩) (by assumption) ?rest10n30; (case hy10n30 => (intro w hSw; (try dsimp only at hSw); go_simp; (try with_reducible rfl))); (try simp only [Act.put, List.setIfInBounds_toArray, List.set_cons_zero, List.set_cons_succ]))
              (refine wpAnyH_take (i := 11) (v := ?v11n31) (by simp only [List.getElem?_toArray, List.getElem?_cons_succ, List.getElem?_cons_zero]; rfl) (by kernel_rfl) (by kernel_rfl) (by kernel_rfl) (fun _ _ _ h => False.elim h) (Or.inl ⟨by rfl, ?hy11n31⟩) (by assumption) ?rest11n31; (case hy11n31 => (intro w hSw; (try dsimp only at hSw); go_simp; (try with_reducible rfl))); (try simp only [Act.put, List.setIfInBounds_toArray, List.set_cons_zero, List.set_cons_succ]))
              (refine wpAnyH_take (i := 12) (v := ?v12n32) (by simp only [List.getElem?_toArray, List.getElem?_cons_succ, List.getElem?_cons_zero]; rfl) (by kernel_rfl) (by kernel_rfl) (by kernel_rfl) (fun _ _ _ h => False.elim h) (Or.inl ⟨by rfl, ?hy12n32⟩) (by assumption) ?rest12n32; (case hy12n32 => (intro w hSw; (try dsimp only at hSw); go_simp; (try with_reducible rfl))); (try simp only [Act.put, List.setIfInBounds_toArray, List.set_cons_zero, List.set_cons_succ]))
              (refine wpAnyH_take (i := 13) (v := ?v13n33) (by simp only [List.getElem?_toArray, List.getElem?_cons_succ, List.getElem?_cons_zero]; rfl) (by kernel_rfl) (by kernel_rfl) (by kernel_rfl) (fun _ _ _ h => False.elim h) (Or.inl ⟨by rfl, ?hy13n33⟩) (by assumption) ?rest13n33; (case hy13n33 => (intro w hSw; (try dsimp only at hSw); go_simp; (try with_reducible rfl))); (try simp only [Act.put, List.setIfInBounds_toArray, List.set_cons_zero, List.set_cons_succ]))
              (refine wpAnyH_take (i := 14) (v := ?v14n34) (by simp only [List.getElem?_toArray, List.getElem?_cons_succ, List.getElem?_cons_zero]; rfl) (by kernel_rfl) (by kernel_rfl) (by kernel_rfl) (fun _ _ _ h => False.elim h) (Or.inl ⟨by rfl, ?hy14n34⟩) (by assumption) ?rest14n34; (case hy14n34 => (intro w hSw; (try dsimp only at hSw); go_simp; (try with_reducible rfl))); (try simp only [Act.put, List.setIfInBounds_toArray, List.set_cons_zero, List.set_cons_succ]))
              (refine wpAnyH_take (i := 15) (v := ?v15n35) (by simp only [List.getElem?_toArray, List.getElem?_cons_succ, List.getElem?_cons_zero]; rfl) (by kernel_rfl) (by kernel_rfl) (by kernel_rfl) (fun _ _ _ h => False.elim h) (Or.inl ⟨by rfl, ?hy15n35⟩) (by assumption) ?rest15n35; (case hy15n35 => (intro w hSw; (try dsimp only at hSw); go_simp; (try with_reducible rfl))); (try simp only [Act.put, List.setIfInBounds_toArray, List.set_cons_zero, List.set_cons_succ]))
              (refine wpAnyH_take (i := 16) (v := ?v16n36) (by simp only [List.getElem?_toArray, List.getElem?_cons_succ, List.getElem?_cons_zero]; rfl) (by kernel_rfl) (by kernel_rfl) (by kernel_rfl) (fun _ _ _ h => False.elim h) (Or.inl ⟨by rfl, ?hy16n36⟩) (by assumption) ?rest16n36; (case hy16n36 => (intro w hSw; (try dsimp only at hSw); go_simp; (try with_reducible rfl))); (try simp only [Act.put, List.setIfInBounds_toArray, List.set_cons_zero, List.set_cons_succ]))
              (refine wpAnyH_take (i := 17) (v := ?v17n37) (by simp only [List.getElem?_toArray, List.getElem?_cons_succ, List.getElem?_cons_zero]; rfl) (by kernel_rfl) (by kernel_rfl) (by kernel_rfl) (fun _ _ _ h => False.elim h) (Or.inl ⟨by rfl, ?hy17n37⟩) (by assumption) ?rest17n37; (case hy17n37 => (intro w hSw; (try dsimp only at hSw); go_simp; (try with_reducible rfl))); (try simp only [Act.put, List.setIfInBounds_toArray, List.set_cons_zero, List.set_cons_succ]))
              (refine wpAnyH_take (i := 18) (v := ?v18n38) (by simp only [List.getElem?_toArray, List.getElem?_cons_succ, List.getElem?_cons_zero]; rfl) (by kernel_rfl) (by kernel_rfl) (by kernel_rfl) (fun _ _ _ h => False.elim h) (Or.inl ⟨by rfl, ?hy18n38⟩) (by assumption) ?rest18n38; (case hy18n38 => (intro w hSw; (try dsimp only at hSw); go_simp; (try with_reducible rfl))); (try simp only [Act.put, List.setIfInBounds_toArray, List.set_cons_zero, List.set_cons_succ]))
              refine wpAnyH_done (by kernel_rfl) ?_ _
              refine NoPanic.normal ?_
              clear hHeld
              have r2 := HQ.out
              have hR : (w6.drew).cell? ⟨wr.heap.size, 2, none⟩ = some (.slice aa mm cp) := r2
              obtain ⟨W7, hW7⟩ : ∃ W7, w6.drew = W7 := ⟨_, rfl⟩
              rw [hW7] at hR hrun ⊢
              clear r2 hW7
              go_wp2_with (at_builtin; (with_reducible apply wpList_append_run hrun); rfl; rfl; rfl; rfl; rfl)
              go_meet
              case rel => first | exact ⟨psd cx (bs.take k), cy, la ++ bs.take k, g', cap', went, by rw [HL2.out], rfl, H8.out.1, by rw [HL2.out]; have := HF.out.1; omega, by simp only [psd]; rw [HF.out.2.1, List.drop_append_of_le_length HF.out.1], by rw [HL2.out]; have := HF.out.2.2.1; omega, by simp only [psd, List.length_take]; have := HF.out.2.2.2.1; omega, HF.out.2.2.2.2, H8.out.2.1⟩ | ((repeat apply Exists.intro); refine ⟨?r, ?f⟩; (case f => (and_intros <;> rfl)); exact ⟨psd cx (bs.take k), cy, la ++ bs.take k, g', cap', went, by rw [HL2.out], rfl, H8.out.1, by rw [HL2.out]; have := HF.out.1; omega, by simp only [psd]; rw [HF.out.2.1, List.drop_append_of_le_length HF.out.1], by rw [HL2.out]; have := HF.out.2.2.1; omega, by simp only [psd, List.length_take]; have := HF.out.2.2.2.1; omega, HF.out.2.2.2.2, H8.out.2.1⟩)
        case rest =>
          clear HO HF
          obtain ⟨cx, cy, la, g, cap, went, rfl, rfl, hown, hwl, hdr, hlj, hcx, hax, hTw⟩ := hcut
          have hnd := hTw.nd
          have hmul := need_mul (n := cx.all.length) (show 0 < S by have := HNum.out.2.2.1; omega) hTw.fs
          have hal : cx.all.length = la.length - went := by rw [hdr, List.length_drop]
          have hcl : la.length ≤ cap ∧ cap ≤ maxLen := by
            obtain ⟨_, ⟨hv, _⟩ | ⟨g', cap', cur, hv, h1, h2, h3, h4, _⟩⟩ := id hown
            · cases hv
            · simp only [Value.slice.injEq] at hv
              obtain ⟨_, _, rfl⟩ := hv
              exact ⟨h3, h4⟩
          have hS9 := HNum.out.2.2.2.1
          have hB12 := HNum.out.2.1
          rw [hal] at hmul
          generalize hH : need S cx.frm cx.all.length = H at *
          rw [hal] at hH
          generalize hH2 : need S cx.frm (la.length - went) = H2 at *
          obtain rfl : H2 = H := hH
          generalize hL : la.length = L at *
          have HL := Lib.hid hL
          have HX := Lib.hid (And.intro hTw (And.intro hown (And.intro hwl (And.intro hdr (And.intro hax (And.intro hlj hcx))))))
          have HH := Lib.hid (show need S cx.frm cx.all.length = H2 by rw [hal]; exact hH2)
          have HDr := Lib.hid hdr
          have hHA : H2 ≤ A := hnd.1
          have hAB := HNum.out.2.2.2.2.2.1
          have hgl : decide ((L : Int) < (went : Int)) = false := decide_eq_false (by omega)
          have hsub : (L : Int) - (went : Int) = ((L - went : Nat) : Int) := by omega
          have hga : decide ((A : Int) < (H2 : Int)) = false := decide_eq_false (by omega)
          have hgan : decide (A < H2) = false := decide_eq_false (by omega)
          obtain ⟨hc1, hc2⟩ := hcl
          have hcm : cap ≤ 9223372036854775807 := by unfold maxLen at hc2; omega
          have hHS : H2 * S ≤ 1000 := Nat.le_trans (Nat.mul_le_mul (show H2 ≤ 12 by omega) hS9) (by decide)
          have hw1 : IntKind.i64.wrap ((H2 : Int) * (S : Int)) = (H2 : Int) * (S : Int) := by
            rw [← Int.natCast_mul]
            generalize H2 * S = q at *
            simp [IntKind.wrap, IntKind.bits, IntKind.signed]
            omega
          have hge : decide (((L - went : Nat) : Int) + 2 * (S : Int) ≤ (H2 : Int) * (S : Int)) = false := by
            rw [← Int.natCast_mul]
            exact decide_eq_false (by omega)
          have hw2 : IntKind.i64.wrap (2 * (S : Int)) = 2 * (S : Int) := by
            simp [IntKind.wrap, IntKind.bits, IntKind.signed]
            omega
          have hw3 : IntKind.i64.wrap (((L - went : Nat) : Int) + 2 * (S : Int)) = ((L - went : Nat) : Int) + 2 * (S : Int) := by
            simp [IntKind.wrap, IntKind.bits, IntKind.signed]
            omega
          have HMul := Lib.hid hmul
          have hl1 : (went : Int) ≤ (L : Int) := by omega
          have hl2 : (L : Int) ≤ (cap : Int) := by omega
          have hl3 : (went : Int) ≤ (cap : Int) := by omega
          have hl4 : (0 : Int) ≤ (went : Int) := by omega
          clear hnd hmul hal hown hdr hax hTw hH2 hL hlj hcx
          by_cases hcw : cap = went
          · as_aux_lemma =>
              obtain rfl : L = went := by omega
              subst hcw
              have hge0 : decide (2 * (S : Int) ≤ (H2 : Int) * (S : Int)) = false := by
                have h1 := HMul.out
                rw [← Int.natCast_mul]
                exact decide_eq_false (by omega)
              clear hw3 hge
              have hcvt : ∀ W ab capb, Rd W ab (u8s (la.drop cap)) → (convert 54 9 (.slice ab (0) capb)).run Tryd.prog W = .ok (.string (Str (la.drop cap))) W := fun W ab capb hrb => by
                have h3 := str_run (P := Tryd.prog) (dst := 9) Tryd.underlying54 Tryd.underlying5 Tryd.underlying9 hrb capb 0
                rw [List.length_drop, HL.out] at h3
                try rw [Nat.sub_self] at h3
                exact h3
              have HCv := Lib.hid hcvt
              clear hcvt
              have hsk : ∀ W, Below wc.heap.size wc W → (fun W => (W.cell? ⟨w.heap.size, 1, none⟩ = some (.int .i64 (S : Int)) ∧ W.cell? ⟨w.heap.size, 2, none⟩ = some (.int .i64 (A : Int))) ∧ (convert 54 9 (.slice (some ⟨g, 0, none⟩) (0) (0))).run Tryd.prog W = .ok (.string (Str (la.drop cap))) W) W := fun W hb => by
                obtain ⟨_, e1, e2, _⟩ := HZC.out _ (HX.out.1.below hb).B
                have hrd := (Rd.own HX.out.2.1).keep hb
                refine ⟨⟨e1, e2⟩, ?_⟩
                have h0 : la.drop cap = [] := List.drop_eq_nil_of_le (by rw [HL.out]; omega)
                have h2 : Rd W (some ⟨g, 0, none⟩) (u8s (la.drop cap)) := by rw [h0]; exact Rd.nil _ _
                have h3 := str_run (P := Tryd.prog) (dst := 9) Tryd.underlying54 Tryd.underlying5 Tryd.underlying9 h2 0 0
                rw [List.length_drop, HL.out, Nat.sub_self] at h3
                exact h3
              have HSk := Lib.hid hsk
              have n0 : Below wc.heap.size wc wc.drew := (Below.refl _ _).drew
              have hby := (HX.out.1.below n0).bytes E HSz'.out (by have := HX.out.2.2.2.2.2; omega)
              rw [HDr.out, List.length_drop, HL.out] at hby
              try simp only [Nat.sub_self] at hby
              have HBy := Lib.hid hby
              have hhd : ∀ W, Below wc.heap.size wc W → Calls Tryd.prog 16 #[.pointer (some ⟨p, 0, none⟩), .int .i64 1] W fun e w' => e = .returned (.int .i64 (H2 : Int)) ∧ W = w' := fun W hb => by
                have h1 := (HX.out.1.below hb).held
                rw [HX.out.2.2.2.2.1, HH.out] at h1
                exact h1
              have HHd := Lib.hid hhd
              clear hsk hhd hby
              go_wp2_with fail
              refine wp_region_noPanic ?_
              refine wp_region_held_drew (S := fun W => (W.cell? ⟨w.heap.size, 1, none⟩ = some (.int .i64 (S : Int)) ∧ W.cell? ⟨w.heap.size, 2, none⟩ = some (.int .i64 (A : Int))) ∧ (convert 54 9 (.slice (some ⟨g, 0, none⟩) (0) (0))).run Tryd.prog W = .ok (.string (Str (la.drop cap))) W) (by kernel_rfl) (HSk.out _ n0) (fun hHeld => ?_)
              (refine wpAnyH_take (i := 0) (v := ?v0n39) (by simp only [List.getElem?_toArray, List.getElem?_cons_succ, List.getElem?_cons_zero]; rfl) (by kernel_rfl) (by kernel_rfl) (by kernel_rfl) (fun _ _ _ h => False.elim h) (Or.inl ⟨by rfl, ?hy0n39⟩) (by assumption) ?rest0n39; (case hy0n39 => (intro w hSw; (try dsimp only at hSw); go_simp; (try with_reducible rfl))); (try simp only [Act.put, List.setIfInBounds_toArray, List.set_cons_zero, List.set_cons_succ]))
              (refine wpAnyH_take (i := 3) (v := ?v3n40) (by simp only [List.getElem?_toArray, List.getElem?_cons_succ, List.getElem?_cons_zero]; rfl) (by kernel_rfl) (by kernel_rfl) (by kernel_rfl) (fun _ _ _ h => False.elim h) (Or.inl ⟨by rfl, ?hy3n40⟩) (by assumption) ?rest3n40; (case hy3n40 => (intro w hSw; (try dsimp only at hSw); go_simp; (try with_reducible rfl))); (try simp only [Act.put, List.setIfInBounds_toArray, List.set_cons_zero, List.set_cons_succ]))
              (refine wpAnyH_take (i := 4) (v := ?v4n41) (by simp only [List.getElem?_toArray, List.getElem?_cons_succ, List.getElem?_cons_zero]; rfl) (by kernel_rfl) (by kernel_rfl) (by kernel_rfl) (fun _ _ _ h => False.elim h) (Or.inl ⟨by rfl, ?hy4n41⟩) (by assumption) ?rest4n41; (case hy4n41 => (intro w hSw; (try dsimp only at hSw); go_simp; (try with_reducible rfl))); (try simp only [Act.put, List.setIfInBounds_toArray, List.set_cons_zero, List.set_cons_succ]))
              (refine wpAnyH_take (i := 5) (v := ?v5n42) (by simp only [List.getElem?_toArray, List.getElem?_cons_succ, List.getElem?_cons_zero]; rfl) (by kernel_rfl) (by kernel_rfl) (by kernel_rfl) (fun _ _ _ h => False.elim h) (Or.inl ⟨by rfl, ?hy5n42⟩) (by assumption) ?rest5n42; (case hy5n42 => (intro w hSw; (try dsimp only at hSw); go_simp; (try with_reducible rfl))); (try simp only [Act.put, List.setIfInBounds_toArray, List.set_cons_zero, List.set_cons_succ]))
              (refine wpAnyH_take (i := 6) (v := ?v6n43) (by simp only [List.getElem?_toArray, List.getElem?_cons_succ, List.getElem?_cons_zero]; rfl) (by kernel_rfl) (by kernel_rfl) (by kernel_rfl) (fun _ _ _ h => False.elim h) (Or.inl ⟨by rfl, ?hy6n43⟩) (by assumption) ?rest6n43; (case hy6n43 => (intro w hSw; (try dsimp only at hSw); go_simp; (try with_reducible rfl))); (try simp only [Act.put, List.setIfInBounds_toArray, List.set_cons_zero, List.set_cons_succ]))
              (refine wpAnyH_ready (rs := [1]) (by kernel_rfl) (by simp) ?_; refine AllReadyH.cons (o := _) (by simp only [List.getElem?_toArray, List.getElem?_cons_succ, List.getElem?_cons_zero]; rfl) (fun K hK => ?_) AllReadyH.nil; go_simp; ((with_reducible refine HBy.out.mono ?_); rintro e w7 ⟨ab, capb, rfl, hrb, _, hb7⟩; have m1 := n0.trans (hb7.mono n0.size); have hcv : (convert 54 9 (.slice ab (0) capb)).run Tryd.prog w7 = .ok (.string (Str (la.drop cap))) w7 := HCv.out w7 ab capb hrb; clear hrb); refine hK.out _ _ (by exact HSk.out _ m1) (fun hHeld => ?_); clear hK K; (try simp only [Act.put, List.setIfInBounds_toArray, List.set_cons_zero, List.set_cons_succ]))
              (refine wpAnyH_ready (rs := [2]) (by kernel_rfl) (by simp) ?_; refine AllReadyH.cons (o := _) (by simp only [List.getElem?_toArray, List.getElem?_cons_succ, List.getElem?_cons_zero]; rfl) (fun K hK => ?_) AllReadyH.nil; go_simp; (skip); refine hK.out _ _ (by exact HSk.out _ m1) (fun hHeld => ?_); clear hK K; (try simp only [Act.put, List.setIfInBounds_toArray, List.set_cons_zero, List.set_cons_succ]))
              (refine wpAnyH_take (i := 7) (v := ?v7n44) (by simp only [List.getElem?_toArray, List.getElem?_cons_succ, List.getElem?_cons_zero]; rfl) (by kernel_rfl) (by kernel_rfl) (by kernel_rfl) (fun _ _ _ h => False.elim h) (Or.inl ⟨by rfl, ?hy7n44⟩) (by assumption) ?rest7n44; (case hy7n44 => (intro w hSw; (try dsimp only at hSw); go_simp; (try with_reducible rfl))); (try simp only [Act.put, List.setIfInBounds_toArray, List.set_cons_zero, List.set_cons_succ]))
              (refine wpAnyH_take (i := 8) (v := ?v8n45) (by simp only [List.getElem?_toArray, List.getElem?_cons_succ, List.getElem?_cons_zero]; rfl) (by kernel_rfl) (by kernel_rfl) (by kernel_rfl) (fun _ _ _ h => False.elim h) (Or.inl ⟨by rfl, ?hy8n45⟩) (by assumption) ?rest8n45; (case hy8n45 => (intro w hSw; (try dsimp only at hSw); go_simp; (try with_reducible rfl))); (try simp only [Act.put, List.setIfInBounds_toArray, List.set_cons_zero, List.set_cons_succ]))
              (refine wpAnyH_take (i := 9) (v := ?v9n46) (by simp only [List.getElem?_toArray, List.getElem?_cons_succ, List.getElem?_cons_zero]; rfl) (by kernel_rfl) (by kernel_rfl) (by kernel_rfl) (fun _ _ _ h => False.elim h) (Or.inl ⟨by rfl, ?hy9n46⟩) (by assumption) ?rest9n46; (case hy9n46 => (intro w hSw; (try dsimp only at hSw); go_simp; (try with_reducible rfl))); (try simp only [Act.put, List.setIfInBounds_toArray, List.set_cons_zero, List.set_cons_succ]))
              (refine wpAnyH_take (i := 11) (v := ?v11n47) (by simp only [List.getElem?_toArray, List.getElem?_cons_succ, List.getElem?_cons_zero]; rfl) (by kernel_rfl) (by kernel_rfl) (by kernel_rfl) (fun _ _ _ h => False.elim h) (Or.inl ⟨by rfl, ?hy11n47⟩) (by assumption) ?rest11n47; (case hy11n47 => (intro w hSw; (try dsimp only at hSw); go_simp; (try with_reducible rfl))); (try simp only [Act.put, List.setIfInBounds_toArray, List.set_cons_zero, List.set_cons_succ]))
              (refine wpAnyH_take (i := 12) (v := ?v12n48) (by simp only [List.getElem?_toArray, List.getElem?_cons_succ, List.getElem?_cons_zero]; rfl) (by kernel_rfl) (by kernel_rfl) (by kernel_rfl) (fun _ _ _ h => False.elim h) (Or.inl ⟨by rfl, ?hy12n48⟩) (by assumption) ?rest12n48; (case hy12n48 => (intro w hSw; (try dsimp only at hSw); go_simp; (try with_reducible rfl))); (try simp only [Act.put, List.setIfInBounds_toArray, List.set_cons_zero, List.set_cons_succ]))
              (refine wpAnyH_ready (rs := [10]) (by kernel_rfl) (by simp) ?_; refine AllReadyH.cons (o := _) (by simp only [List.getElem?_toArray, List.getElem?_cons_succ, List.getElem?_cons_zero]; rfl) (fun K hK => ?_) AllReadyH.nil; go_simp; ((with_reducible refine (HHd.out _ m1).mono ?_); rintro e w8 ⟨rfl, rfl⟩); refine hK.out _ _ (by exact HSk.out _ m1) (fun hHeld => ?_); clear hK K; (try simp only [Act.put, List.setIfInBounds_toArray, List.set_cons_zero, List.set_cons_succ]))
              (refine wpAnyH_take (i := 13) (v := ?v13n49) (by simp only [List.getElem?_toArray, List.getElem?_cons_succ, List.getElem?_cons_zero]; rfl) (by kernel_rfl) (by kernel_rfl) (by kernel_rfl) (fun _ _ _ h => False.elim h) (Or.inl ⟨by rfl, ?hy13n49⟩) (by assumption) ?rest13n49; (case hy13n49 => (intro w hSw; (try dsimp only at hSw); go_simp; (try with_reducible rfl))); (try simp only [Act.put, List.setIfInBounds_toArray, List.set_cons_zero, List.set_cons_succ]))
              (refine wpAnyH_take (i := 14) (v := ?v14n50) (by simp only [List.getElem?_toArray, List.getElem?_cons_succ, List.getElem?_cons_zero]; rfl) (by kernel_rfl) (by kernel_rfl) (by kernel_rfl) (fun _ _ _ h => False.elim h) (Or.inl ⟨by rfl, ?hy14n50⟩) (by assumption) ?rest14n50; (case hy14n50 => (intro w hSw; (try dsimp only at hSw); go_simp; (try with_reducible rfl))); (try simp only [Act.put, List.setIfInBounds_toArray, List.set_cons_zero, List.set_cons_succ]))
              (refine wpAnyH_take (i := 15) (v := ?v15n51) (by simp only [List.getElem?_toArray, List.getElem?_cons_succ, List.getElem?_cons_zero]; rfl) (by kernel_rfl) (by kernel_rfl) (by kernel_rfl) (fun _ _ _ h => False.elim h) (Or.inl ⟨by rfl, ?hy15n51⟩) (by assumption) ?rest15n51; (case hy15n51 => (intro w hSw; (try dsimp only at hSw); go_simp; (try with_reducible rfl))); (try simp only [Act.put, List.setIfInBounds_toArray, List.set_cons_zero, List.set_cons_succ]))
              (refine wpAnyH_take (i := 16) (v := ?v16n52) (by simp only [List.getElem?_toArray, List.getElem?_cons_succ, List.getElem?_cons_zero]; rfl) (by kernel_rfl) (by kernel_rfl) (by kernel_rfl) (fun _ _ _ h => False.elim h) (Or.inl ⟨by rfl, ?hy16n52⟩) (by assumption) ?rest16n52; (case hy16n52 => (intro w hSw; (try dsimp only at hSw); go_simp; (try with_reducible rfl))); (try simp only [Act.put, List.setIfInBounds_toArray, List.set_cons_zero, List.set_cons_succ]))
              (refine wpAnyH_take (i := 18) (v := ?v18n53) (by simp only [List.getElem?_toArray, List.getElem?_cons_succ, List.getElem?_cons_zero]; rfl) (by kernel_rfl) (by kernel_rfl) (by kernel_rfl) (fun _ _ _ h => False.elim h) (Or.inl ⟨by rfl, ?hy18n53⟩) (by assumption) ?rest18n53; (case hy18n53 => (intro w hSw; (try dsimp only at hSw); go_simp; (try with_reducible rfl))); (try simp only [Act.put, List.setIfInBounds_toArray, List.set_cons_zero, List.set_cons_succ]))
              (refine wpAnyH_take (i := 19) (v := ?v19n54) (by simp only [List.getElem?_toArray, List.getElem?_cons_succ, List.getElem?_cons_zero]; rfl) (by kernel_rfl) (by kernel_rfl) (by kernel_rfl) (fun _ _ _ h => False.elim h) (Or.inl ⟨by rfl, ?hy19n54⟩) (by assumption) ?rest19n54; (case hy19n54 => (intro w hSw; (try dsimp only at hSw); go_simp; (try with_reducible rfl))); (try simp only [Act.put, List.setIfInBounds_toArray, List.set_cons_zero, List.set_cons_succ]))
              (refine wpAnyH_take (i := 21) (v := ?v21n55) (by simp only [List.getElem?_toArray, List.getElem?_cons_succ, List.getElem?_cons_zero]; rfl) (by kernel_rfl) (by kernel_rfl) (by kernel_rfl) (fun _ _ _ h => False.elim h) (Or.inl ⟨by rfl, ?hy21n55⟩) (by assumption) ?rest21n55; (case hy21n55 => (intro w hSw; (try dsimp only at hSw); go_simp; (try with_reducible rfl))); (try simp only [Act.put, List.setIfInBounds_toArray, List.set_cons_zero, List.set_cons_succ]))
              (refine wpAnyH_take (i := 22) (v := ?v22n56) (by simp only [List.getElem?_toArray, List.getElem?_cons_succ, List.getElem?_cons_zero]; rfl) (by kernel_rfl) (by kernel_rfl) (by kernel_rfl) (fun _ _ _ h => False.elim h) (Or.inl ⟨by rfl, ?hy22n56⟩) (by assumption) ?rest22n56; (case hy22n56 => (intro w hSw; (try dsimp only at hSw); go_simp; (try with_reducible rfl))); (try simp only [Act.put, List.setIfInBounds_toArray, List.set_cons_zero, List.set_cons_succ]))
              (refine wpAnyH_take (i := 23) (v := ?v23n57) (by simp only [List.getElem?_toArray, List.getElem?_cons_succ, List.getElem?_cons_zero]; rfl) (by kernel_rfl) (by kernel_rfl) (by kernel_rfl) (fun _ _ _ h => False.elim h) (Or.inl ⟨by rfl, ?hy23n57⟩) (by assumption) ?rest23n57; (case hy23n57 => (intro w hSw; (try dsimp only at hSw); go_simp; (try with_reducible rfl))); (try simp only [Act.put, List.setIfInBounds_toArray, List.set_cons_zero, List.set_cons_succ]))
              (refine wpAnyH_take (i := 24) (v := ?v24n58) (by simp only [List.getElem?_toArray, List.getElem?_cons_succ, List.getElem?_cons_zero]; rfl) (by kernel_rfl) (by kernel_rfl) (by kernel_rfl) (fun _ _ _ h => False.elim h) (Or.inl ⟨by rfl, ?hy24n58⟩) (by assumption) ?rest24n58; (case hy24n58 => (intro w hSw; (try dsimp only at hSw); go_simp; (try with_reducible rfl))); (try simp only [Act.put, List.setIfInBounds_toArray, List.set_cons_zero, List.set_cons_succ]))
              (refine wpAnyH_take (i := 25) (v := ?v25n59) (by simp only [List.getElem?_toArray, List.getElem?_cons_succ, List.getElem?_cons_zero]; rfl) (by kernel_rfl) (by kernel_rfl) (by kernel_rfl) (fun _ _ _ h => False.elim h) (Or.inl ⟨by rfl, ?hy25n59⟩) (by assumption) ?rest25n59; (case hy25n59 => (intro w hSw; (try dsimp only at hSw); go_simp; (try with_reducible rfl))); (try simp only [Act.put, List.setIfInBounds_toArray, List.set_cons_zero, List.set_cons_succ]))
              (refine wpAnyH_ready (rs := [17]) (by kernel_rfl) (by simp) ?_; refine AllReadyH.cons (o := _) (by simp only [List.getElem?_toArray, List.getElem?_cons_succ, List.getElem?_cons_zero]; rfl) (fun K hK => ?_) AllReadyH.nil; go_simp; ((with_reducible refine (HHd.out _ m1).mono ?_); rintro e w8 ⟨rfl, rfl⟩); refine hK.out _ _ (by exact HSk.out _ m1) (fun hHeld => ?_); clear hK K; (try simp only [Act.put, List.setIfInBounds_toArray, List.set_cons_zero, List.set_cons_succ]))
              (refine wpAnyH_take (i := 20) (v := ?v20n60) (by simp only [List.getElem?_toArray, List.getElem?_cons_succ, List.getElem?_cons_zero]; rfl) (by kernel_rfl) (by kernel_rfl) (by kernel_rfl) (fun _ _ _ h => False.elim h) (Or.inl ⟨by rfl, ?hy20n60⟩) (by assumption) ?rest20n60; (case hy20n60 => (intro w hSw; (try dsimp only at hSw); go_simp; (try with_reducible rfl))); (try simp only [Act.put, List.setIfInBounds_toArray, List.set_cons_zero, List.set_cons_succ]))
              (refine wpAnyH_take (i := 26) (v := ?v26n61) (by simp only [List.getElem?_toArray, List.getElem?_cons_succ, List.getElem?_cons_zero]; rfl) (by kernel_rfl) (by kernel_rfl) (by kernel_rfl) (fun _ _ _ h => False.elim h) (Or.inl ⟨by rfl, ?hy26n61⟩) (by assumption) ?rest26n61; (case hy26n61 => (intro w hSw; (try dsimp only at hSw); go_simp; (try with_reducible rfl))); (try simp only [Act.put, List.setIfInBounds_toArray, List.set_cons_zero, List.set_cons_succ]))
              (refine wpAnyH_take (i := 27) (v := ?v27n62) (by simp only [List.getElem?_toArray, List.getElem?_cons_succ, List.getElem?_cons_zero]; rfl) (by kernel_rfl) (by kernel_rfl) (by kernel_rfl) (fun _ _ _ h => False.elim h) (Or.inl ⟨by rfl, ?hy27n62⟩) (by assumption) ?rest27n62; (case hy27n62 => (intro w hSw; (try dsimp only at hSw); go_simp; (try with_reducible rfl))); (try simp only [Act.put, List.setIfInBounds_toArray, List.set_cons_zero, List.set_cons_succ]))
              refine wpAnyH_done (by kernel_rfl) ?_ _
              refine NoPanic.normal ?_
              clear hHeld
              have HM1 := Lib.hid m1
              clear n0 m1 hcv hb7 HCv HBy HHd HSk
              go_wp2_with fail
              go_roundw
              case rel => first | exact ⟨j + 1, by omega, by go_num, cx, cy, la, g, cap, cap, by rw [HL.out], rfl, by rw [HL.out]; exact own_keep HX.out.2.1 HM1.out, by rw [HL.out]; exact HX.out.2.2.1, HX.out.2.2.2.1, by rw [HL.out]; have := HX.out.2.2.2.2.2; omega, by have := HX.out.2.2.2.2.2; omega, HX.out.2.2.2.2.1, HX.out.1.below HM1.out⟩ | ((repeat apply Exists.intro); refine ⟨?r, ?f⟩; (case f => (and_intros <;> rfl)); exact ⟨j + 1, by omega, by go_num, cx, cy, la, g, cap, cap, by rw [HL.out], rfl, by rw [HL.out]; exact own_keep HX.out.2.1 HM1.out, by rw [HL.out]; exact HX.out.2.2.1, HX.out.2.2.2.1, by rw [HL.out]; have := HX.out.2.2.2.2.2; omega, by have := HX.out.2.2.2.2.2; omega, HX.out.2.2.2.2.1, HX.out.1.below HM1.out⟩)
              case measure => simp [cj]; omega
          · as_aux_lemma =>
              have hcw2 : went < cap := by omega
              have hcvt : ∀ W ab capb, Rd W ab (u8s (la.drop went)) → (convert 54 9 (.slice ab (L - went) capb)).run Tryd.prog W = .ok (.string (Str (la.drop went))) W := fun W ab capb hrb => by
                have h3 := str_run (P := Tryd.prog) (dst := 9) Tryd.underlying54 Tryd.underlying5 Tryd.underlying9 hrb capb 0
                rw [List.length_drop, HL.out] at h3
                try rw [Nat.sub_self] at h3
                exact h3
              have HCv := Lib.hid hcvt
              clear hcvt
              have hsk : ∀ W, Below wc.heap.size wc W → (fun W => (W.cell? ⟨w.heap.size, 1, none⟩ = some (.int .i64 (S : Int)) ∧ W.cell? ⟨w.heap.size, 2, none⟩ = some (.int .i64 (A : Int))) ∧ (convert 54 9 (.slice (some ⟨g, went, none⟩) (L - went) (cap - went))).run Tryd.prog W = .ok (.string (Str (la.drop went))) W) W := fun W hb => by
                obtain ⟨_, e1, e2, _⟩ := HZC.out _ (HX.out.1.below hb).B
                have hrd := (Rd.own HX.out.2.1).keep hb
                refine ⟨⟨e1, e2⟩, ?_⟩
                have h1 := hrd.drop went
                have h2 : Rd W (some ⟨g, went, none⟩) (u8s (la.drop went)) := by simpa [u8s, List.map_drop] using h1
                have h3 := str_run (P := Tryd.prog) (dst := 9) Tryd.underlying54 Tryd.underlying5 Tryd.underlying9 h2 (cap - went) 0
                rw [List.length_drop, HL.out] at h3
                exact h3
              have HSk := Lib.hid hsk
              have n0 : Below wc.heap.size wc wc.drew := (Below.refl _ _).drew
              have hby := (HX.out.1.below n0).bytes E HSz'.out (by have := HX.out.2.2.2.2.2; omega)
              rw [HDr.out, List.length_drop, HL.out] at hby
              try simp only [Nat.sub_self] at hby
              have HBy := Lib.hid hby
              have hhd : ∀ W, Below wc.heap.size wc W → Calls Tryd.prog 16 #[.pointer (some ⟨p, 0, none⟩), .int .i64 1] W fun e w' => e = .returned (.int .i64 (H2 : Int)) ∧ W = w' := fun W hb => by
                have h1 := (HX.out.1.below hb).held
                rw [HX.out.2.2.2.2.1, HH.out] at h1
                exact h1
              have HHd := Lib.hid hhd
              clear hsk hhd hby
              go_wp2_with fail
              refine wp_region_noPanic ?_
              refine wp_region_held_drew (S := fun W => (W.cell? ⟨w.heap.size, 1, none⟩ = some (.int .i64 (S : Int)) ∧ W.cell? ⟨w.heap.size, 2, none⟩ = some (.int .i64 (A : Int))) ∧ (convert 54 9 (.slice (some ⟨g, went, none⟩) (L - went) (cap - went))).run Tryd.prog W = .ok (.string (Str (la.drop went))) W) (by kernel_rfl) (HSk.out _ n0) (fun hHeld => ?_)
              (refine wpAnyH_take (i := 0) (v := ?v0n63) (by simp only [List.getElem?_toArray, List.getElem?_cons_succ, List.getElem?_cons_zero]; rfl) (by kernel_rfl) (by kernel_rfl) (by kernel_rfl) (fun _ _ _ h => False.elim h) (Or.inl ⟨by rfl, ?hy0n63⟩) (by assumption) ?rest0n63; (case hy0n63 => (intro w hSw; (try dsimp only at hSw); go_simp; (try with_reducible rfl))); (try simp only [Act.put, List.setIfInBounds_toArray, List.set_cons_zero, List.set_cons_succ]))
              (refine wpAnyH_take (i := 3) (v := ?v3n64) (by simp only [List.getElem?_toArray, List.getElem?_cons_succ, List.getElem?_cons_zero]; rfl) (by kernel_rfl) (by kernel_rfl) (by kernel_rfl) (fun _ _ _ h => False.elim h) (Or.inl ⟨by rfl, ?hy3n64⟩) (by assumption) ?rest3n64; (case hy3n64 => (intro w hSw; (try dsimp only at hSw); go_simp; (try with_reducible rfl))); (try simp only [Act.put, List.setIfInBounds_toArray, List.set_cons_zero, List.set_cons_succ]))
              (refine wpAnyH_take (i := 4) (v := ?v4n65) (by simp only [List.getElem?_toArray, List.getElem?_cons_succ, List.getElem?_cons_zero]; rfl) (by kernel_rfl) (by kernel_rfl) (by kernel_rfl) (fun _ _ _ h => False.elim h) (Or.inl ⟨by rfl, ?hy4n65⟩) (by assumption) ?rest4n65; (case hy4n65 => (intro w hSw; (try dsimp only at hSw); go_simp; (try with_reducible rfl))); (try simp only [Act.put, List.setIfInBounds_toArray, List.set_cons_zero, List.set_cons_succ]))
              (refine wpAnyH_take (i := 5) (v := ?v5n66) (by simp only [List.getElem?_toArray, List.getElem?_cons_succ, List.getElem?_cons_zero]; rfl) (by kernel_rfl) (by kernel_rfl) (by kernel_rfl) (fun _ _ _ h => False.elim h) (Or.inl ⟨by rfl, ?hy5n66⟩) (by assumption) ?rest5n66; (case hy5n66 => (intro w hSw; (try dsimp only at hSw); go_simp; (try with_reducible rfl))); (try simp only [Act.put, List.setIfInBounds_toArray, List.set_cons_zero, List.set_cons_succ]))
              (refine wpAnyH_take (i := 6) (v := ?v6n67) (by simp only [List.getElem?_toArray, List.getElem?_cons_succ, List.getElem?_cons_zero]; rfl) (by kernel_rfl) (by kernel_rfl) (by kernel_rfl) (fun _ _ _ h => False.elim h) (Or.inl ⟨by rfl, ?hy6n67⟩) (by assumption) ?rest6n67; (case hy6n67 => (intro w hSw; (try dsimp only at hSw); go_simp; (try with_reducible rfl))); (try simp only [Act.put, List.setIfInBounds_toArray, List.set_cons_zero, List.set_cons_succ]))
              (refine wpAnyH_ready (rs := [1]) (by kernel_rfl) (by simp) ?_; refine AllReadyH.cons (o := _) (by simp only [List.getElem?_toArray, List.getElem?_cons_succ, List.getElem?_cons_zero]; rfl) (fun K hK => ?_) AllReadyH.nil; go_simp; ((with_reducible refine HBy.out.mono ?_); rintro e w7 ⟨ab, capb, rfl, hrb, _, hb7⟩; have m1 := n0.trans (hb7.mono n0.size); have hcv : (convert 54 9 (.slice ab (L - went) capb)).run Tryd.prog w7 = .ok (.string (Str (la.drop went))) w7 := HCv.out w7 ab capb hrb; clear hrb); refine hK.out _ _ (by exact HSk.out _ m1) (fun hHeld => ?_); clear hK K; (try simp only [Act.put, List.setIfInBounds_toArray, List.set_cons_zero, List.set_cons_succ]))
              (refine wpAnyH_ready (rs := [2]) (by kernel_rfl) (by simp) ?_; refine AllReadyH.cons (o := _) (by simp only [List.getElem?_toArray, List.getElem?_cons_succ, List.getElem?_cons_zero]; rfl) (fun K hK => ?_) AllReadyH.nil; go_simp; (skip); refine hK.out _ _ (by exact HSk.out _ m1) (fun hHeld => ?_); clear hK K; (try simp only [Act.put, List.setIfInBounds_toArray, List.set_cons_zero, List.set_cons_succ]))
              (refine wpAnyH_take (i := 7) (v := ?v7n68) (by simp only [List.getElem?_toArray, List.getElem?_cons_succ, List.getElem?_cons_zero]; rfl) (by kernel_rfl) (by kernel_rfl) (by kernel_rfl) (fun _ _ _ h => False.elim h) (Or.inl ⟨by rfl, ?hy7n68⟩) (by assumption) ?rest7n68; (case hy7n68 => (intro w hSw; (try dsimp only at hSw); go_simp; (try with_reducible rfl))); (try simp only [Act.put, List.setIfInBounds_toArray, List.set_cons_zero, List.set_cons_succ]))
              (refine wpAnyH_take (i := 8) (v := ?v8n69) (by simp only [List.getElem?_toArray, List.getElem?_cons_succ, List.getElem?_cons_zero]; rfl) (by kernel_rfl) (by kernel_rfl) (by kernel_rfl) (fun _ _ _ h => False.elim h) (Or.inl ⟨by rfl, ?hy8n69⟩) (by assumption) ?rest8n69; (case hy8n69 => (intro w hSw; (try dsimp only at hSw); go_simp; (try with_reducible rfl))); (try simp only [Act.put, List.setIfInBounds_toArray, List.set_cons_zero, List.set_cons_succ]))
              (refine wpAnyH_take (i := 9) (v := ?v9n70) (by simp only [List.getElem?_toArray, List.getElem?_cons_succ, List.getElem?_cons_zero]; rfl) (by kernel_rfl) (by kernel_rfl) (by kernel_rfl) (fun _ _ _ h => False.elim h) (Or.inl ⟨by rfl, ?hy9n70⟩) (by assumption) ?rest9n70; (case hy9n70 => (intro w hSw; (try dsimp only at hSw); go_simp; (try with_reducible rfl))); (try simp only [Act.put, List.setIfInBounds_toArray, List.set_cons_zero, List.set_cons_succ]))
              (refine wpAnyH_take (i := 11) (v := ?v11n71) (by simp only [List.getElem?_toArray, List.getElem?_cons_succ, List.getElem?_cons_zero]; rfl) (by kernel_rfl) (by kernel_rfl) (by kernel_rfl) (fun _ _ _ h => False.elim h) (Or.inl ⟨by rfl, ?hy11n71⟩) (by assumption) ?rest11n71; (case hy11n71 => (intro w hSw; (try dsimp only at hSw); go_simp; (try with_reducible rfl))); (try simp only [Act.put, List.setIfInBounds_toArray, List.set_cons_zero, List.set_cons_succ]))
              (refine wpAnyH_take (i := 12) (v := ?v12n72) (by simp only [List.getElem?_toArray, List.getElem?_cons_succ, List.getElem?_cons_zero]; rfl) (by kernel_rfl) (by kernel_rfl) (by kernel_rfl) (fun _ _ _ h => False.elim h) (Or.inl ⟨by rfl, ?hy12n72⟩) (by assumption) ?rest12n72; (case hy12n72 => (intro w hSw; (try dsimp only at hSw); go_simp; (try with_reducible rfl))); (try simp only [Act.put, List.setIfInBounds_toArray, List.set_cons_zero, List.set_cons_succ]))
              (refine wpAnyH_ready (rs := [10]) (by kernel_rfl) (by simp) ?_; refine AllReadyH.cons (o := _) (by simp only [List.getElem?_toArray, List.getElem?_cons_succ, List.getElem?_cons_zero]; rfl) (fun K hK => ?_) AllReadyH.nil; go_simp; ((with_reducible refine (HHd.out _ m1).mono ?_); rintro e w8 ⟨rfl, rfl⟩); refine hK.out _ _ (by exact HSk.out _ m1) (fun hHeld => ?_); clear hK K; (try simp only [Act.put, List.setIfInBounds_toArray, List.set_cons_zero, List.set_cons_succ]))
              (refine wpAnyH_take (i := 13) (v := ?v13n73) (by simp only [List.getElem?_toArray, List.getElem?_cons_succ, List.getElem?_cons_zero]; rfl) (by kernel_rfl) (by kernel_rfl) (by kernel_rfl) (fun _ _ _ h => False.elim h) (Or.inl ⟨by rfl, ?hy13n73⟩) (by assumption) ?rest13n73; (case hy13n73 => (intro w hSw; (try dsimp only at hSw); go_simp; (try with_reducible rfl))); (try simp only [Act.put, List.setIfInBounds_toArray, List.set_cons_zero, List.set_cons_succ]))
              (refine wpAnyH_take (i := 14) (v := ?v14n74) (by simp only [List.getElem?_toArray, List.getElem?_cons_succ, List.getElem?_cons_zero]; rfl) (by kernel_rfl) (by kernel_rfl) (by kernel_rfl) (fun _ _ _ h => False.elim h) (Or.inl ⟨by rfl, ?hy14n74⟩) (by assumption) ?rest14n74; (case hy14n74 => (intro w hSw; (try dsimp only at hSw); go_simp; (try with_reducible rfl))); (try simp only [Act.put, List.setIfInBounds_toArray, List.set_cons_zero, List.set_cons_succ]))
              (refine wpAnyH_take (i := 15) (v := ?v15n75) (by simp only [List.getElem?_toArray, List.getElem?_cons_succ, List.getElem?_cons_zero]; rfl) (by kernel_rfl) (by kernel_rfl) (by kernel_rfl) (fun _ _ _ h => False.elim h) (Or.inl ⟨by rfl, ?hy15n75⟩) (by assumption) ?rest15n75; (case hy15n75 => (intro w hSw; (try dsimp only at hSw); go_simp; (try with_reducible rfl))); (try simp only [Act.put, List.setIfInBounds_toArray, List.set_cons_zero, List.set_cons_succ]))
              (refine wpAnyH_take (i := 16) (v := ?v16n76) (by simp only [List.getElem?_toArray, List.getElem?_cons_succ, List.getElem?_cons_zero]; rfl) (by kernel_rfl) (by kernel_rfl) (by kernel_rfl) (fun _ _ _ h => False.elim h) (Or.inl ⟨by rfl, ?hy16n76⟩) (by assumption) ?rest16n76; (case hy16n76 => (intro w hSw; (try dsimp only at hSw); go_simp; (try with_reducible rfl))); (try simp only [Act.put, List.setIfInBounds_toArray, List.set_cons_zero, List.set_cons_succ]))
              (refine wpAnyH_take (i := 18) (v := ?v18n77) (by simp only [List.getElem?_toArray, List.getElem?_cons_succ, List.getElem?_cons_zero]; rfl) (by kernel_rfl) (by kernel_rfl) (by kernel_rfl) (fun _ _ _ h => False.elim h) (Or.inl ⟨by rfl, ?hy18n77⟩) (by assumption) ?rest18n77; (case hy18n77 => (intro w hSw; (try dsimp only at hSw); go_simp; (try with_reducible rfl))); (try simp only [Act.put, List.setIfInBounds_toArray, List.set_cons_zero, List.set_cons_succ]))
              (refine wpAnyH_take (i := 19) (v := ?v19n78) (by simp only [List.getElem?_toArray, List.getElem?_cons_succ, List.getElem?_cons_zero]; rfl) (by kernel_rfl) (by kernel_rfl) (by kernel_rfl) (fun _ _ _ h => False.elim h) (Or.inl ⟨by rfl, ?hy19n78⟩) (by assumption) ?rest19n78; (case hy19n78 => (intro w hSw; (try dsimp only at hSw); go_simp; (try with_reducible rfl))); (try simp only [Act.put, List.setIfInBounds_toArray, List.set_cons_zero, List.set_cons_succ]))
              (refine wpAnyH_take (i := 21) (v := ?v21n79) (by simp only [List.getElem?_toArray, List.getElem?_cons_succ, List.getElem?_cons_zero]; rfl) (by kernel_rfl) (by kernel_rfl) (by kernel_rfl) (fun _ _ _ h => False.elim h) (Or.inl ⟨by rfl, ?hy21n79⟩) (by assumption) ?rest21n79; (case hy21n79 => (intro w hSw; (try dsimp only at hSw); go_simp; (try with_reducible rfl))); (try simp only [Act.put, List.setIfInBounds_toArray, List.set_cons_zero, List.set_cons_succ]))
              (refine wpAnyH_take (i := 22) (v := ?v22n80) (by simp only [List.getElem?_toArray, List.getElem?_cons_succ, List.getElem?_cons_zero]; rfl) (by kernel_rfl) (by kernel_rfl) (by kernel_rfl) (fun _ _ _ h => False.elim h) (Or.inl ⟨by rfl, ?hy22n80⟩) (by assumption) ?rest22n80; (case hy22n80 => (intro w hSw; (try dsimp only at hSw); go_simp; (try with_reducible rfl))); (try simp only [Act.put, List.setIfInBounds_toArray, List.set_cons_zero, List.set_cons_succ]))
              (refine wpAnyH_take (i := 23) (v := ?v23n81) (by simp only [List.getElem?_toArray, List.getElem?_cons_succ, List.getElem?_cons_zero]; rfl) (by kernel_rfl) (by kernel_rfl) (by kernel_rfl) (fun _ _ _ h => False.elim h) (Or.inl ⟨by rfl, ?hy23n81⟩) (by assumption) ?rest23n81; (case hy23n81 => (intro w hSw; (try dsimp only at hSw); go_simp; (try with_reducible rfl))); (try simp only [Act.put, List.setIfInBounds_toArray, List.set_cons_zero, List.set_cons_succ]))
              (refine wpAnyH_take (i := 24) (v := ?v24n82) (by simp only [List.getElem?_toArray, List.getElem?_cons_succ, List.getElem?_cons_zero]; rfl) (by kernel_rfl) (by kernel_rfl) (by kernel_rfl) (fun _ _ _ h => False.elim h) (Or.inl ⟨by rfl, ?hy24n82⟩) (by assumption) ?rest24n82; (case hy24n82 => (intro w hSw; (try dsimp only at hSw); go_simp; (try with_reducible rfl))); (try simp only [Act.put, List.setIfInBounds_toArray, List.set_cons_zero, List.set_cons_succ]))
              (refine wpAnyH_take (i := 25) (v := ?v25n83) (by simp only [List.getElem?_toArray, List.getElem?_cons_succ, List.getElem?_cons_zero]; rfl) (by kernel_rfl) (by kernel_rfl) (by kernel_rfl) (fun _ _ _ h => False.elim h) (Or.inl ⟨by rfl, ?hy25n83⟩) (by assumption) ?rest25n83; (case hy25n83 => (intro w hSw; (try dsimp only at hSw); go_simp; (try with_reducible rfl))); (try simp only [Act.put, List.setIfInBounds_toArray, List.set_cons_zero, List.set_cons_succ]))
              (refine wpAnyH_ready (rs := [17]) (by kernel_rfl) (by simp) ?_; refine AllReadyH.cons (o := _) (by simp only [List.getElem?_toArray, List.getElem?_cons_succ, List.getElem?_cons_zero]; rfl) (fun K hK => ?_) AllReadyH.nil; go_simp; ((with_reducible refine (HHd.out _ m1).mono ?_); rintro e w8 ⟨rfl, rfl⟩); refine hK.out _ _ (by exact HSk.out _ m1) (fun hHeld => ?_); clear hK K; (try simp only [Act.put, List.setIfInBounds_toArray, List.set_cons_zero, List.set_cons_succ]))
              (refine wpAnyH_take (i := 20) (v := ?v20n84) (by simp only [List.getElem?_toArray, List.getElem?_cons_succ, List.getElem?_cons_zero]; rfl) (by kernel_rfl) (by kernel_rfl) (by kernel_rfl) (fun _ _ _ h => False.elim h) (Or.inl ⟨by rfl, ?hy20n84⟩) (by assumption) ?rest20n84; (case hy20n84 => (intro w hSw; (try dsimp only at hSw); go_simp; (try with_reducible rfl))); (try simp only [Act.put, List.setIfInBounds_toArray, List.set_cons_zero, List.set_cons_succ]))
              (refine wpAnyH_take (i := 26) (v := ?v26n85) (by simp only [List.getElem?_toArray, List.getElem?_cons_succ, List.getElem?_cons_zero]; rfl) (by kernel_rfl) (by kernel_rfl) (by kernel_rfl) (fun _ _ _ h => False.elim h) (Or.inl ⟨by rfl, ?hy26n85⟩) (by assumption) ?rest26n85; (case hy26n85 => (intro w hSw; (try dsimp only at hSw); go_simp; (try with_reducible rfl))); (try simp only [Act.put, List.setIfInBounds_toArray, List.set_cons_zero, List.set_cons_succ]))
              (refine wpAnyH_take (i := 27) (v := ?v27n86) (by simp only [List.getElem?_toArray, List.getElem?_cons_succ, List.getElem?_cons_zero]; rfl) (by kernel_rfl) (by kernel_rfl) (by kernel_rfl) (fun _ _ _ h => False.elim h) (Or.inl ⟨by rfl, ?hy27n86⟩) (by assumption) ?rest27n86; (case hy27n86 => (intro w hSw; (try dsimp only at hSw); go_simp; (try with_reducible rfl))); (try simp only [Act.put, List.setIfInBounds_toArray, List.set_cons_zero, List.set_cons_succ]))
              refine wpAnyH_done (by kernel_rfl) ?_ _
              refine NoPanic.normal ?_
              clear hHeld
              have HM1 := Lib.hid m1
              clear n0 m1 hcv hb7 HCv HBy HHd HSk
              go_wp2_with fail
              go_roundw
              case rel => first | exact ⟨j + 1, by omega, by go_num, cx, cy, la, g, cap, went, by rw [HL.out], rfl, by rw [HL.out]; exact own_keep HX.out.2.1 HM1.out, by rw [HL.out]; exact HX.out.2.2.1, HX.out.2.2.2.1, by rw [HL.out]; have := HX.out.2.2.2.2.2; omega, by have := HX.out.2.2.2.2.2; omega, HX.out.2.2.2.2.1, HX.out.1.below HM1.out⟩ | ((repeat apply Exists.intro); refine ⟨?r, ?f⟩; (case f => (and_intros <;> rfl)); exact ⟨j + 1, by omega, by go_num, cx, cy, la, g, cap, went, by rw [HL.out], rfl, by rw [HL.out]; exact own_keep HX.out.2.1 HM1.out, by rw [HL.out]; exact HX.out.2.2.1, HX.out.2.2.2.1, by rw [HL.out]; have := HX.out.2.2.2.2.2; omega, by have := HX.out.2.2.2.2.2; omega, HX.out.2.2.2.2.1, HX.out.1.below HM1.out⟩)
              case measure => simp [cj]; omega
      · obtain rfl : j = N := by omega
        have HB := Lib.hid hTw.B
        clear hTw hown
        go_wp2
        go_ret
        exact ⟨rfl, HZ.out.2.2.trans (HB.out.mono HZ.out.2.2.size)⟩
end Ch
end Go.Proofs.YtpjimmdpcpcmoaaDoor
