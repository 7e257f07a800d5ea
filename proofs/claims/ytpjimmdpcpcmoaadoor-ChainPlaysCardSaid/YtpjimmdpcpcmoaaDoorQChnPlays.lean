import Derived.Test.YtpjimmdpcpcmoaaDoorQChnPc
import Derived.Deep.RegionHeld3
import Derived.BigQuiet
import Derived.Deep.CutBlock
/- dofferlaw31.ChainPlays. Conditions: the sentinels, and the table of TrailingZeros64, read as laid. -/
namespace Go.Proofs.YtpjimmdpcpcmoaaDoor
open Go Go.RowKit Kt
namespace Ch
open Po
variable {w0 wb w w' w2 w3 W W' : World} {K K' : List Nat} {p x y : Nat} {L L' Sx Sy : List Nat} {m m' : Md} {lx ly : List Nat} {cx cy cx' : Cn} {qx qy n s : Nat}
/-- Where the loop of ChainPlays stands. -/
def CpR (w0 : World) (p x y v u sb A C B S N : Nat) (i : Value) (W : World) : Prop :=
  ∃ j : Nat, j ≤ N ∧ i = .int .i64 (j : Int) ∧ ∃ cx cy o qb ob, Pc w0 W p x y v u sb qb ob cx cy cx cy A C B S o ∧ cx.acc = 1 ∧ cy.acc = 2 ∧ cx.came ≤ 200 * j ∧ cy.came ≤ 200 * j
theorem rc_two (w : World) (a c : Nat) (c1 c2 : Cn) (h1 : c1.frm = 0 ∧ c1.all = [] ∧ c1.came = 0 ∧ c1.went = 0) (h2 : c2.frm = 0 ∧ c2.all = [] ∧ c2.came = 0 ∧ c2.went = 0) :
    RC ((w.alloc (.cells #[.int .i64 (a : Int), .int .i64 0, .slice none 0 0, .int .i64 0, .int .i64 0] 78 (0, 0))).alloc (.cells #[.int .i64 (c : Int), .int .i64 0, .slice none 0 0, .int .i64 0, .int .i64 0] 78 (0, 0))) w.heap.size [w.heap.size] a c1 ∧
    RC ((w.alloc (.cells #[.int .i64 (a : Int), .int .i64 0, .slice none 0 0, .int .i64 0, .int .i64 0] 78 (0, 0))).alloc (.cells #[.int .i64 (c : Int), .int .i64 0, .slice none 0 0, .int .i64 0, .int .i64 0] 78 (0, 0))) (w.heap.size + 1) [w.heap.size + 1] c c2 ∧
    Below w.heap.size w ((w.alloc (.cells #[.int .i64 (a : Int), .int .i64 0, .slice none 0 0, .int .i64 0, .int .i64 0] 78 (0, 0))).alloc (.cells #[.int .i64 (c : Int), .int .i64 0, .slice none 0 0, .int .i64 0, .int .i64 0] 78 (0, 0))) := by
  obtain ⟨f1, a1, m1, w1⟩ := h1
  obtain ⟨f2, a2, m2, w2⟩ := h2
  have hb := (Below.refl w.heap.size w).alloc (Nat.le_refl _) (.cells #[.int .i64 (a : Int), .int .i64 0, .slice none 0 0, .int .i64 0, .int .i64 0] 78 (0, 0))
  have hn := World.alloc_heap_new (w.alloc (.cells #[.int .i64 (a : Int), .int .i64 0, .slice none 0 0, .int .i64 0, .int .i64 0] 78 (0, 0))) (.cells #[.int .i64 (c : Int), .int .i64 0, .slice none 0 0, .int .i64 0, .int .i64 0] 78 (0, 0))
  rw [show (w.alloc (.cells #[.int .i64 (a : Int), .int .i64 0, .slice none 0 0, .int .i64 0, .int .i64 0] 78 (0, 0))).heap.size = w.heap.size + 1 by simp] at hn
  refine ⟨⟨none, 0, ?_, by rw [a1]; exact Rd.nil _ _, rfl, by simp [ba], by rw [a1]; exact Nat.le_refl _, by decide, fun _ => rfl, by simp⟩, ⟨none, 0, ?_, by rw [a2]; exact Rd.nil _ _, rfl, by simp [ba], by rw [a2]; exact Nat.le_refl _, by decide, fun _ => rfl, by simp⟩, hb.alloc hb.size _⟩
  · rw [f1, a1, m1, w1]
    exact block_alloc (World.alloc_heap_new w _)
  · rw [f2, a2, m2, w2]
    exact hn
set_option maxRecDepth 100000 in
set_option maxHeartbeats 8000000 in
theorem plays_c (E : Nat → Addr) (z0 z1 z2 z3 : Int) (a : Option Addr) (cap : Nat) (l : List AcC) (w : World) (hl : l.length ≤ 9223372036854775807) (hr : Rd w a (l.flatMap ac4)) (hok : ∀ x ∈ l, x.ok w) (hT : Bt.Tab w) (hs : Sent 169 w E Er.egs) :
    Calls Tryd.prog 7 #[.agg #[.int .i64 z0, .int .i64 z1, .int .i64 z2, .int .i64 z3], .slice a l.length cap] w fun e w' => e = .returned (.bool true) ∧ Below w.heap.size w w' := by
  obtain ⟨wb, hwb⟩ : ∃ wb, w.alloc (.cells #[.int .i64 z0, .int .i64 z1, .int .i64 z2, .int .i64 z3] 65 (0, 0)) = wb := ⟨_, rfl⟩
  have hBb : Below w.heap.size w wb := by rw [← hwb]; exact (Below.refl _ _).alloc (Nat.le_refl _) _
  have hbl : wb.heap[w.heap.size]? = some (.cells #[.int .i64 z0, .int .i64 z1, .int .i64 z2, .int .i64 z3] 65 (0, 0)) := by rw [← hwb]; exact World.alloc_heap_new w _
  have hal := alive_c E wb (hT.below hBb) (hs.keep hBb)
  have hlg := fun W (hb : Below w.heap.size w W) => long_c a cap l W hl (hr.keep hb) (fun x hx => by have h1 := hok x hx; have h2 := h1.2.2.1; have h3 := h1.2.2.2.1; unfold maxLen at h3; omega)
  obtain ⟨N, hN⟩ : ∃ N, l.length = N := ⟨_, rfl⟩
  rw [hN] at hlg hl ⊢
  obtain ⟨qz, hqz⟩ : ∃ q, w.heap.size = q := ⟨_, rfl⟩
  have hqb : qz < wb.heap.size := by rw [← hqz]; exact block_lt hbl
  rw [hqz] at hbl
  have HQ := Lib.hid (And.intro hqz hqb)
  have HAl := Lib.hid hal
  have HLg := Lib.hid hlg
  have HWb := Lib.hid hwb
  have HBb := Lib.hid hBb
  have HBl := Lib.hid hbl
  have HT := Lib.hid hT
  have HS := Lib.hid hs
  have HR := Lib.hid hr
  have HOk := Lib.hid hok
  have HN := Lib.hid hN
  clear hwb hBb hbl hal hlg hT hs hr hok hN hqb
  go_enter Tryd.func7, Tryd.ntmps7
  go_wp2_with fail
  rw [HWb.out]
  with_reducible refine HAl.out.mono ?_
  rintro e w1 ⟨rfl, hb1⟩
  have HB1 := Lib.hid (HBb.out.trans (hb1.mono HBb.out.size))
  have HX1 := Lib.hid hb1
  clear hb1 HAl
  go_wp2_with fail
  with_reducible refine (HLg.out _ HB1.out).mono ?_
  rintro e w2 ⟨rfl, hb2⟩
  have HB2 := Lib.hid (HB1.out.trans (hb2.mono HB1.out.size))
  have HX2 := Lib.hid (HX1.out.trans (hb2.mono HX1.out.size))
  clear hb2 HLg HX1 HB1
  cases hlg : lg l with
  | true =>
    go_wp2
    go_ret
    exact ⟨rfl, HB2.out⟩
  | false =>
    have HLn := Lib.hid (lg_no hlg)
    clear hlg
    have hb2l := (HX2.out.block qz HQ.out.2).trans HBl.out
    have k0 := cell_block hb2l 0
    have k1 := cell_block hb2l 1
    have k2 := cell_block hb2l 2
    have k3 := cell_block hb2l 3
    simp only [List.getElem?_toArray, List.getElem?_cons_zero, List.getElem?_cons_succ] at k0 k1 k2 k3
    subst hqz
    clear hb2l
    go_wp2_with fail
    with_reducible refine (within_c z0 z1 z2 z3 w2).mono ?_
    rintro e w3 ⟨B, S, A, C, rfl, b1, b2, s1, s2, a1, a2, c1, c2, hb3⟩
    have hX3 := HX2.out.trans (hb3.mono HX2.out.size)
    have hB3 := HB2.out.trans (hb3.mono HB2.out.size)
    have hb3l := (hX3.block _ HQ.out.2).trans HBl.out
    have d0 := cell_block hb3l 0
    have d1 := cell_block hb3l 1
    have d2 := cell_block hb3l 2
    have d3 := cell_block hb3l 3
    have g0 := frozen_block hb3l 0
    have g1 := frozen_block hb3l 1
    have g2 := frozen_block hb3l 2
    have g3 := frozen_block hb3l 3
    simp only [List.getElem?_toArray, List.getElem?_cons_zero, List.getElem?_cons_succ] at d0 d1 d2 d3
    obtain ⟨wz, hwz⟩ : ∃ wz, (((w3.setCell ⟨w.heap.size, 0, none⟩ (.int .i64 (B : Int))).setCell ⟨w.heap.size, 1, none⟩ (.int .i64 (S : Int))).setCell ⟨w.heap.size, 2, none⟩ (.int .i64 (A : Int))).setCell ⟨w.heap.size, 3, none⟩ (.int .i64 (C : Int)) = wz := ⟨_, rfl⟩
    have hzl : wz.heap[w.heap.size]? = some (.cells #[.int .i64 (B : Int), .int .i64 (S : Int), .int .i64 (A : Int), .int .i64 (C : Int)] 65 (0, 0)) := by
      rw [← hwz]
      exact block_setCell (block_setCell (block_setCell (block_setCell hb3l _) _) _) _
    have hBz : Below w.heap.size w wz := by
      rw [← hwz]
      exact (((hB3.setCell (Nat.le_refl _) _).setCell (Nat.le_refl _) _).setCell (Nat.le_refl _) _).setCell (Nat.le_refl _) _
    have m0 := cell_block hzl 0
    have m1 := cell_block hzl 1
    have m2 := cell_block hzl 2
    have m3 := cell_block hzl 3
    simp only [List.getElem?_toArray, List.getElem?_cons_zero, List.getElem?_cons_succ] at m0 m1 m2 m3
    rw [← hwz] at m0 m1 m2 m3
    have HZ := Lib.hid (And.intro hwz (And.intro hzl hBz))
    have HBg := Lib.hid (begin_c B S A C b1 b2 s1 s2 a1 a2 c1 c2 wz wz (Below.refl _ _))
    have HNum := Lib.hid (And.intro b1 (And.intro b2 (And.intro s1 (And.intro s2 (And.intro a1 (And.intro a2 (And.intro c1 c2)))))))
    clear k0 k1 k2 k3 hb3 hX3 hB3 hb3l hwz hzl hBz b1 b2 s1 s2 a1 a2 c1 c2
    go_wp2_with fail
    rw [HZ.out.1]
    with_reducible refine HBg.out.mono ?_
    rintro e w4 ⟨p, x, y, rfl, hTw⟩
    have HTw := Lib.hid hTw
    have hsz : w.heap.size < wz.heap.size := block_lt HZ.out.2.1
    have HSz := Lib.hid hsz
    clear hTw d0 d1 d2 d3 g0 g1 g2 g3 m0 m1 m2 m3 HBg hsz HX2 HB2 HBb HBl HWb
    go_wp2_with fail
    have hzc : ∀ W, Below wz.heap.size wz W → W.cell? ⟨w.heap.size, 0, none⟩ = some (.int .i64 (B : Int)) ∧ W.cell? ⟨w.heap.size, 1, none⟩ = some (.int .i64 (S : Int)) ∧ W.cell? ⟨w.heap.size, 2, none⟩ = some (.int .i64 (A : Int)) ∧ W.cell? ⟨w.heap.size, 3, none⟩ = some (.int .i64 (C : Int)) := fun W hb => by
      have h1 := (hb.block _ HSz.out).trans HZ.out.2.1
      exact ⟨cell_block h1 0, cell_block h1 1, cell_block h1 2, cell_block h1 3⟩
    have HZC := Lib.hid hzc
    have HSz' := Lib.hid (HS.out.keep HZ.out.2.2)
    have HTz := Lib.hid (HT.out.below HZ.out.2.2)
    clear hzc
    go_upto_region 10 with (fail)
    go_cut [8, 9] (fun v8 v9 W => ∃ v u, v8 = .pointer (some ⟨v, 0, none⟩) ∧ v9 = .pointer (some ⟨u, 0, none⟩) ∧ v ≠ u ∧ wz.heap.size ≤ v ∧ wz.heap.size ≤ u ∧ TwX wz W p x y ⟨1, 0, [], 0, 0⟩ ⟨2, 0, [], 0, 0⟩ A C B S [v, u] ∧ RC W v [v] A ⟨1, 0, [], 0, 0⟩ ∧ RC W u [u] C ⟨2, 0, [], 0, 0⟩)
    case first =>
      as_aux_lemma =>
        have n0 : Below wz.heap.size wz w4.drew := HTw.out.B.drew
        have HS := Lib.hid (show ∀ W, Below wz.heap.size wz W → W.cell? ⟨w.heap.size, 2, none⟩ = some (.int .i64 (A : Int)) ∧ W.cell? ⟨w.heap.size, 3, none⟩ = some (.int .i64 (C : Int)) from fun W hb => (HZC.out W hb).2.2)
        have HA := Lib.hid (rc_two w4.drew A C ⟨1, 0, [], 0, 0⟩ ⟨2, 0, [], 0, 0⟩ ⟨rfl, rfl, rfl, rfl⟩ ⟨rfl, rfl, rfl, rfl⟩)
        have HC := Lib.hid (rc_two w4.drew C A ⟨2, 0, [], 0, 0⟩ ⟨1, 0, [], 0, 0⟩ ⟨rfl, rfl, rfl, rfl⟩ ⟨rfl, rfl, rfl, rfl⟩)
        have HT := Lib.hid (show ∀ (W : World) v u, Below w4.drew.heap.size w4.drew W → w4.drew.heap.size ≤ v → w4.drew.heap.size ≤ u → v < W.heap.size → u < W.heap.size → TwX wz W p x y ⟨1, 0, [], 0, 0⟩ ⟨2, 0, [], 0, 0⟩ A C B S [v, u] from fun W v u hb h1 h2 h3 h4 => (HTw.out.below (Below.refl _ _).drew).other (M := []) (Mod.of_below hb []) (by simp) (fun q hq => by
          simp only [List.mem_cons, List.not_mem_nil, or_false] at hq
          rcases hq with rfl | rfl
          · exact ⟨.inr h1, h3⟩
          · exact ⟨.inr h2, h4⟩) (by simp))
        have hsz : wz.heap.size ≤ w4.heap.size := HTw.out.B.size
        have HSz4 := Lib.hid hsz
        clear hsz
        go_wp2_with fail
        go_region_held3 (fun W => W.cell? ⟨w.heap.size, 2, none⟩ = some (.int .i64 (A : Int)) ∧ W.cell? ⟨w.heap.size, 3, none⟩ = some (.int .i64 (C : Int))) ((refine HS.out _ ?_; first | exact n0 | exact n0.alloc n0.size _ | exact (n0.alloc n0.size _).alloc (n0.alloc n0.size _).size _)) (fail)
        all_goals
          clear n0
          go_wp2
          go_meet
          case rel => first
            | exact ⟨w4.heap.size, w4.heap.size + 1, rfl, rfl, by omega, HSz4.out, Nat.le_succ_of_le HSz4.out, HT.out _ _ _ HA.out.2.2 (Nat.le_refl _) (Nat.le_succ _) (by simp <;> omega) (by simp <;> omega), HA.out.1, HA.out.2.1⟩
            | exact ⟨w4.heap.size + 1, w4.heap.size, rfl, rfl, by omega, Nat.le_succ_of_le HSz4.out, HSz4.out, HT.out _ _ _ HC.out.2.2 (Nat.le_succ _) (Nat.le_refl _) (by simp <;> omega) (by simp <;> omega), HC.out.2.1, HC.out.1⟩
    case rest =>
      obtain ⟨v, u, rfl, rfl, hvu, hv0, hu0, hTu, hV, hU⟩ := hcut
      obtain ⟨z0', z1', _, _⟩ := HZC.out _ hTu.B
      obtain ⟨ws, hws⟩ : ∃ ws, wc.alloc (.cells #[.int .i64 (B : Int), .int .i64 (S : Int), .int .i64 0] 80 (0, 0)) = ws := ⟨_, rfl⟩
      obtain ⟨sb, hsb⟩ : ∃ q, wc.heap.size = q := ⟨_, rfl⟩
      have hPc : Pc wz ws p x y v u sb w.heap.size (.cells #[.int .i64 (B : Int), .int .i64 (S : Int), .int .i64 (A : Int), .int .i64 (C : Int)] 65 (0, 0)) ⟨1, 0, [], 0, 0⟩ ⟨2, 0, [], 0, 0⟩ ⟨1, 0, [], 0, 0⟩ ⟨2, 0, [], 0, 0⟩ A C B S 0 := by
        have hb := (Below.refl wc.heap.size wc).alloc (Nat.le_refl _) (.cells #[.int .i64 (B : Int), .int .i64 (S : Int), .int .i64 0] 80 (0, 0))
        have hn := World.alloc_heap_new wc (.cells #[.int .i64 (B : Int), .int .i64 (S : Int), .int .i64 0] 80 (0, 0))
        rw [hws] at hb hn
        have hvl := hV.lts v (by simp)
        have hul := hU.lts u (by simp)
        have hTs : TwX wz ws p x y ⟨1, 0, [], 0, 0⟩ ⟨2, 0, [], 0, 0⟩ A C B S [sb, v, u] := hTu.other (M := []) (Mod.of_below hb []) (by simp) (fun q hq => by
          have := hb.size
          simp only [List.mem_cons, List.not_mem_nil, or_false] at hq
          rcases hq with rfl | rfl | rfl
          · exact ⟨.inr (by omega), by rw [← hsb]; exact block_lt hn⟩
          · exact ⟨.inl (by simp), by omega⟩
          · exact ⟨.inl (by simp), by omega⟩) (by simp)
        have hzw := HSz.out
        have hzl := hTu.B.size
        refine ⟨[v], [u], hTs.low HSz.out, hV.below hb, hU.below hb, by rw [← hsb]; exact hn, (hTs.B.block _ HSz.out).trans HZ.out.2.1, by simpa using hvu, ⟨by simp; omega, by simp; omega⟩, ⟨by simp; omega, by simp; omega, by omega⟩, fun g hg => ?_⟩
        simp only [List.singleton_append, List.mem_cons, List.not_mem_nil, or_false] at hg
        rcases hg with rfl | rfl | rfl <;> omega
      have HPc := Lib.hid hPc
      have HWs := Lib.hid hws
      clear hPc hws hTu hV hU hv0 hu0 hvu HTw
      go_wp2_with fail
      try rw [hsb]
      rw [HWs.out]
      go_loopw [12, 13, 14, 15, 16, 17, 18, 19, 20, 21, 22, 23, 24, 25, 59] (fun _ _ _ _ _ _ _ _ _ _ _ _ _ _ i W => CpR wz p x y v u sb A C B S N i W) (fun _ _ _ _ _ _ _ _ _ _ _ _ _ _ i _ => N - (cj i).toNat)
      case atStart => exact ⟨0, Nat.zero_le _, rfl, _, _, _, _, _, HPc.out, rfl, rfl, Nat.le_refl _, Nat.le_refl _⟩
      case round =>
        clear HPc HWs
        obtain ⟨j, hj, rfl, cx, cy, o, qb, ob, hP4, hax, hay, hcx, hcy⟩ := hrel
        have hTw := hP4.tw
        have hN60 := HLn.out.1
        rw [HN.out] at hN60
        by_cases hjN : j < N
        · have hjl : j < l.length := by rw [HN.out]; exact hjN
          obtain ⟨b, off, ha, hcs⟩ := (HR.out.keep (HZ.out.2.2.trans (hTw.B.mono HZ.out.2.2.size))).struct 4 (by intro z _; rfl) j hjl (by omega)
          have k0 := hcs 0 _ rfl (by omega)
          have k1 := hcs 1 _ rfl (by omega)
          have k2 := hcs 2 _ rfl (by omega)
          have k3 := hcs 3 _ rfl (by omega)
          have hmem := List.getElem_mem hjl
          have hao := HOk.out _ hmem
          have hbl := HLn.out.2 _ hmem
          clear hcs hmem
          subst ha
          generalize l[j] = act at *
          obtain ⟨kd, nn, aa, bs, cp, wh⟩ := act
          simp only [Nat.add_zero] at k0 k1 k2 k3 hbl
          rw [← Nat.add_assoc] at k1 k2 k3
          have hrd : Rd wz aa (u8s bs) := hao.1.keep HZ.out.2.2
          obtain ⟨mm, hmm⟩ : ∃ m, bs.length = m := ⟨_, rfl⟩
          rw [hmm] at k2 hbl
          have hB5 := (Below.refl wr.heap.size wr).alloc (Nat.le_refl _) (.cells #[.int .i64 kd, .int .i64 nn, .slice aa mm cp, .bool wh] 72 (0, 0))
          have hs5 := heap_alloc_new wr (.cells #[.int .i64 kd, .int .i64 nn, .slice aa mm cp, .bool wh] 72 (0, 0))
          obtain ⟨W5, hW5⟩ : ∃ W5, wr.alloc (.cells #[.int .i64 kd, .int .i64 nn, .slice aa mm cp, .bool wh] 72 (0, 0)) = W5 := ⟨_, rfl⟩
          rw [hW5] at hs5 hB5
          have hP5 := hP4.act (.cells #[.int .i64 kd, .int .i64 nn, .slice aa mm cp, .bool wh] 72 (0, 0))
          rw [hW5] at hP5
          have HRd := Lib.hid hrd
          have HMm := Lib.hid hmm
          have hmm2 : bs.length ≤ 200 := by rw [hmm]; exact hbl
          have HCm := Lib.hid (And.intro hcx (And.intro hcy (And.intro hN60 (And.intro hmm2 (And.intro hbl (And.intro hj hjN))))))
          have HAc := Lib.hid (And.intro hax hay)
          have hnl := hao.2.2.2.2.1
          have HNw := Lib.hid hnl
          clear hP4 hTw hao hrd hmm hmm2 hax hay hnl
          cases wh with
          | false =>
            as_aux_lemma =>
              have hP := hP5
              have hrh := hP.swap.rheld (by have := HNum.out.2.2.1; omega) (by have := HNum.out.2.2.2.1; omega) (by have h1 := hP.swap.tw.cw; have h2 := hP.swap.tw.fs; have h3 := HNum.out.2.2.2.1; omega) o
              have HP := Lib.hid hP
              have hkk := fun W oo {a b} (h : Pc wz W p x y v u sb wr.heap.size (.cells #[.int .i64 kd, .int .i64 nn, .slice aa mm cp, .bool false] 72 (0, 0)) a cy b cy A C B S oo) => And.intro (cell_block h.sk 0) (And.intro (cell_block h.sk 1) (And.intro (cell_block h.sk 2) (And.intro (cell_block h.qk 0) (And.intro (cell_block h.qk 1) (cell_block h.qk 2)))))
              simp only [List.getElem?_toArray, List.getElem?_cons_zero, List.getElem?_cons_succ] at hkk
              obtain ⟨s0, s1, s2, _, _, _⟩ := hkk W5 o hP
              have q3 := cell_block hP.qk 3
              simp only [List.getElem?_toArray, List.getElem?_cons_zero, List.getElem?_cons_succ] at q3
              have q3b := q3
              rw [← hW5] at s0 s1 s2 q3
              have hnvl : (need S cy.frm cy.all.length) ≤ B := by have := hP.tw.nd; omega
              obtain ⟨nv, hnv⟩ : ∃ n, (need S cy.frm cy.all.length) = n := ⟨_, rfl⟩
              rw [hnv] at hrh hnvl
              have HRh := Lib.hid hrh
              have HKk := Lib.hid hkk
              have HW5 := Lib.hid hW5
              have HNv := Lib.hid hnv
              have HQ3 := Lib.hid q3b
              clear hP hP5 hrh hkk hB5 hs5 hW5 hnv q3b
              go_wp2_with fail
              rw [HW5.out]
              with_reducible refine HRh.out.mono ?_
              rintro e w6 ⟨rfl, hP6⟩
              have hP7 := hP6.swap.others nv
              obtain ⟨W7, hW7⟩ : ∃ W7, w6.setCell ⟨sb, 2, none⟩ (.int .i64 (nv : Int)) = W7 := ⟨_, rfl⟩
              rw [hW7] at hP7
              obtain ⟨_, _, s2, a0, _, _⟩ := HKk.out w6 o hP6.swap
              have sf := frozen_block hP6.swap.sk 2
              obtain ⟨_, _, _, e0, e1, e2⟩ := HKk.out W7 nv hP7
              rw [← hW7] at e0 e1 e2
              have HW7 := Lib.hid hW7
              have HP7 := Lib.hid hP7
              clear hP6 hP7 hW7 s0 s1 q3 HRh k0 k1 k2 k3
              go_upto_block 2 with (fail)
              rw [HW7.out]
              clear s2 sf a0 e0 e1 e2
              go_cut [16] (fun gg W => gg = .bool true ∧ ∃ cu', Pc wz W p x y v u sb wr.heap.size (.cells #[.int .i64 kd, .int .i64 nn, .slice aa mm cp, .bool false] 72 (0, 0)) cu' cy cu' cy A C B S nv ∧ cu'.acc = cx.acc ∧ cu'.came ≤ 200 * (j + 1))
              case first =>
                obtain ⟨s0, s1, s2, a0, a1, a2⟩ := HKk.out W7 nv HP7.out
                by_cases h0 : kd = 0
                · as_aux_lemma =>
                    subst h0
                    have hb7 := HP7.out.tw
                    have hpc := HP7.out.chain (fun K hT => hT.push E aa cp bs HSz'.out HTz.out (by have := HCm.out; omega) HRd.out)
                    have hsp := (psh_spec (one S cx.frm A (need S cy.frm cy.all.length) B) bs.length cx.all.length).2
                    have hpm := fun W (h : Pc wz W p x y v u sb wr.heap.size (.cells #[.int .i64 0, .int .i64 nn, .slice aa mm cp, .bool false] 72 (0, 0)) (psd cx (bs.take (psh (one S cx.frm A (need S cy.frm cy.all.length) B) cx.all.length bs.length).1)) cy cx cy A C B S nv) => h.rpush aa cp bs (by have := HNum.out.2.2.1; omega) (by have := HNum.out.2.2.2.1; omega) (by have := HNum.out.2.1; omega) (by have := HNum.out.2.1; omega) hb7.fs hb7.z (by have := HCm.out; omega) hb7.cw HRd.out
                    rw [HNv.out] at hpc hpm hsp
                    have her : (psh (one S cx.frm A nv B) cx.all.length bs.length).2 = 0 ∨ (psh (one S cx.frm A nv B) cx.all.length bs.length).2 = 13 ∨ (psh (one S cx.frm A nv B) cx.all.length bs.length).2 = 14 := by
                      rcases hsp with h1 | h1
                      · exact .inl h1.2
                      · rw [h1.2.2]
                        unfold one
                        split
                        · split
                          · exact .inr (.inr rfl)
                          · split
                            · exact .inr (.inl rfl)
                            · exact .inl rfl
                        · exact .inl rfl
                    generalize psh (one S cx.frm A nv B) cx.all.length bs.length = r at *
                    obtain ⟨k, er⟩ := r
                    simp only at hpc hpm her
                    have hnm := fun W {a b} (h : Pc wz W p x y v u sb wr.heap.size (.cells #[.int .i64 0, .int .i64 nn, .slice aa mm cp, .bool false] 72 (0, 0)) a cy b cy A C B S nv) => h.num E HSz'.out (k := er) (by omega) (by omega)
                    have HKm := Lib.hid HMm.out
                    rw [HMm.out] at hpc hpm
                    generalize ee E er = ev at *
                    have HPc := Lib.hid hpc
                    have HPm := Lib.hid hpm
                    have HNm := Lib.hid hnm
                    clear hpc hpm hnm hsp hb7 her
                    go_wp2_with fail
                    with_reducible refine HPc.out.mono ?_
                    rintro e w8 ⟨rfl, hP8⟩
                    have hPm := HPm.out w8 hP8
                    obtain ⟨s0, s1, s2, a0, a1, a2⟩ := HKk.out w8 nv hP8
                    have HPm8 := Lib.hid hPm
                    clear hP8 hPm HPc HPm
                    go_wp2_with fail
                    with_reducible refine HPm8.out.mono ?_
                    rintro e w9 ⟨rfl, hP9⟩
                    have HN9 := Lib.hid (HNm.out w9 hP9)
                    clear hP9 HPm8 HNm s0 s1 s2 a0 a1 a2
                    go_wp2_with fail
                    with_reducible refine HN9.out.mono ?_
                    rintro e w10 ⟨rfl, hP10⟩
                    have H10 := Lib.hid hP10
                    clear hP10 HN9
                    go_wp2_with fail
                    go_meet
                    case rel => first | exact ⟨rfl, psd cx (bs.take k), H10.out, rfl, by simp only [psd, List.length_take]; have := HCm.out; omega⟩ | ((repeat apply Exists.intro); refine ⟨?r, ?f⟩; (case f => (and_intros <;> rfl)); exact ⟨rfl, psd cx (bs.take k), H10.out, rfl, by simp only [psd, List.length_take]; have := HCm.out; omega⟩)
                · by_cases h1 : kd = 1
                  · as_aux_lemma =>
                      subst h1
                      have hb7 := HP7.out.tw
                      have hpc := fun W {b} (h : Pc wz W p x y v u sb wr.heap.size (.cells #[.int .i64 1, .int .i64 nn, .slice aa mm cp, .bool false] 72 (0, 0)) cx cy b cy A C B S nv) => h.chain (fun K hT => hT.drop E nn HSz'.out (by have := HCm.out; omega))
                      have hpm := fun W {a} (h : Pc wz W p x y v u sb wr.heap.size (.cells #[.int .i64 1, .int .i64 nn, .slice aa mm cp, .bool false] 72 (0, 0)) a cy cx cy A C B S nv) => h.rdrop nn (by have := HNum.out.2.2.1; omega) (by have := HNum.out.2.2.2.1; omega) hb7.fs (by have := HCm.out; omega) hb7.cw
                      have her : (if 0 ≤ nn ∧ nn ≤ (cx.all.length : Int) then (0 : Int) else 1) = 0 ∨ (if 0 ≤ nn ∧ nn ≤ (cx.all.length : Int) then (0 : Int) else 1) = 1 := by split <;> simp
                      have hcm' : (if 0 ≤ nn ∧ nn ≤ (cx.all.length : Int) then drp S cx nn.toNat else cx).acc = cx.acc ∧ (if 0 ≤ nn ∧ nn ≤ (cx.all.length : Int) then drp S cx nn.toNat else cx).came ≤ 200 * (j + 1) := by
                        have := HCm.out
                        split
                        · exact ⟨rfl, by simp only [drp]; omega⟩
                        · exact ⟨rfl, by omega⟩
                      generalize (if 0 ≤ nn ∧ nn ≤ (cx.all.length : Int) then drp S cx nn.toNat else cx) = c2 at *
                      generalize (if 0 ≤ nn ∧ nn ≤ (cx.all.length : Int) then (0 : Int) else 1) = er at *
                      have hnm := fun W {a b} (h : Pc wz W p x y v u sb wr.heap.size (.cells #[.int .i64 1, .int .i64 nn, .slice aa mm cp, .bool false] 72 (0, 0)) a cy b cy A C B S nv) => h.num E HSz'.out (k := er) (by omega) (by omega)
                      generalize ee E er = ev at *
                      have HPc := Lib.hid hpc
                      have HPm := Lib.hid hpm
                      have HNm := Lib.hid hnm
                      have X0 : Pc wz W7.drew p x y v u sb wr.heap.size (.cells #[.int .i64 1, .int .i64 nn, .slice aa mm cp, .bool false] 72 (0, 0)) cx cy cx cy A C B S nv := HP7.out.below (Below.refl _ _).drew
                      have HS := Lib.hid (fun W {a b} (h : Pc wz W p x y v u sb wr.heap.size (.cells #[.int .i64 1, .int .i64 nn, .slice aa mm cp, .bool false] 72 (0, 0)) a cy b cy A C B S nv) => show ((W.cell? ⟨sb, 0, none⟩ = some (.int .i64 (B : Int)) ∧ W.cell? ⟨sb, 1, none⟩ = some (.int .i64 (S : Int)) ∧ W.cell? ⟨sb, 2, none⟩ = some (.int .i64 (nv : Int))) ∧ (W.cell? ⟨wr.heap.size, 0, none⟩ = some (.int .i64 1) ∧ W.cell? ⟨wr.heap.size, 1, none⟩ = some (.int .i64 nn) ∧ W.cell? ⟨wr.heap.size, 2, none⟩ = some (.slice aa mm cp))) from (HKk.out W nv h) |> fun ⟨g0, g1, g2, g3, g4, g5⟩ => ⟨⟨g0, g1, g2⟩, g3, g4, g5⟩)
                      have HC2 := Lib.hid hcm'
                      clear hpc hpm hnm hb7 her hcm' s0 s1 s2 a1 a2
                      go_wp2_with fail
                      clear a0
                      go_region_held3 (fun W => (W.cell? ⟨sb, 0, none⟩ = some (.int .i64 (B : Int)) ∧ W.cell? ⟨sb, 1, none⟩ = some (.int .i64 (S : Int)) ∧ W.cell? ⟨sb, 2, none⟩ = some (.int .i64 (nv : Int))) ∧ (W.cell? ⟨wr.heap.size, 0, none⟩ = some (.int .i64 1) ∧ W.cell? ⟨wr.heap.size, 1, none⟩ = some (.int .i64 nn) ∧ W.cell? ⟨wr.heap.size, 2, none⟩ = some (.slice aa mm cp))) (first | exact HS.out _ X3 | exact HS.out _ X2 | exact HS.out _ X1 | exact HS.out _ X0)
                        (first
                          | (go_at_call 37; first | (with_reducible refine (HPc.out _ X0).mono ?_; rintro e wa ⟨rfl, X1⟩) | (with_reducible refine (HPc.out _ X1).mono ?_; rintro e wb ⟨rfl, X2⟩))
                          | (go_at_call 22; first | (with_reducible refine (HNm.out _ X2).mono ?_; rintro e wc ⟨rfl, X3⟩) | (with_reducible refine (HNm.out _ X1).mono ?_; rintro e wb ⟨rfl, X2⟩))
                          | (go_at_call 42; first | (with_reducible refine (HPm.out _ X2).mono ?_; rintro e wc ⟨rfl, X3⟩) | (with_reducible refine (HPm.out _ X1).mono ?_; rintro e wb ⟨rfl, X2⟩) | (with_reducible refine (HPm.out _ X0).mono ?_; rintro e wa ⟨rfl, X1⟩)))
                      all_goals
                        have HX3 := Lib.hid X3
                        clear X0 X1 X2 X3
                        go_wp2
                        go_meet
                        case rel => first | exact ⟨by simp, c2, HX3.out, HC2.out⟩ | ((repeat apply Exists.intro); (refine ⟨?_, ?_⟩); rotate_left 1; (focus (and_intros <;> rfl)); exact ⟨by simp, c2, HX3.out, HC2.out⟩)
                  · by_cases h2 : kd = 2
                    · as_aux_lemma =>
                        subst h2
                        have hpc := HP7.out.tw.atb E nn HSz'.out (by have := HCm.out; omega)
                        have hml := fun W {a} (h : Pc wz W p x y v u sb wr.heap.size (.cells #[.int .i64 2, .int .i64 nn, .slice aa mm cp, .bool false] 72 (0, 0)) a cy cx cy A C B S nv) => h.mdl.elim (fun _ hv => hv.cells)
                        have hpb := fun W (hb : Below W7.heap.size W7 W) => HP7.out.below hb
                        obtain ⟨amo, cmo, hrm, _, _, _, m2, _⟩ := hml W7 HP7.out
                        have hrmd := fun W (hb : Below W7.heap.size W7 W) => hrm.keep hb
                        have hmc := fun W (hb : Below W7.heap.size W7 W) => (hb.cell (lt_of_cell m2)).trans m2
                        have hlc : cx.all.length ≤ 12200 := by have := HP7.out.tw.cw; have := HCm.out; omega
                        by_cases hin : 0 ≤ nn ∧ nn < (cx.all.length : Int)
                        · obtain ⟨jn, rfl⟩ : ∃ jn : Nat, nn = (jn : Int) := ⟨nn.toNat, by omega⟩
                          have hjl : jn < cx.all.length := by omega
                          rw [if_pos hin.1, if_pos hin, Int.toNat_natCast, List.getD_eq_getElem?_getD, List.getElem?_eq_getElem hjl, Option.getD_some, show ee E 0 = Value.nilIface from rfl] at hpc
                          obtain ⟨g1, o1, rfl, hcr⟩ := hrm.u8 jn hjl
                          have hcrd := fun W (hb : Below W7.heap.size W7 W) => (hb.cell (lt_of_cell hcr)).trans hcr
                          generalize cx.all[jn].toNat = bv at *
                          obtain ⟨L, hL⟩ : ∃ L, cx.all.length = L := ⟨_, rfl⟩
                          rw [hL] at hjl hmc hlc
                          have HPc := Lib.hid hpc
                          have HSk := Lib.hid (show ∀ W, Below W7.heap.size W7 W → W.cell? ⟨wr.heap.size, 1, none⟩ = some (.int .i64 (jn : Int)) ∧ W.cell? ⟨v, 2, none⟩ = some (.slice (some ⟨g1, o1, none⟩) L cmo) ∧ W.cell? ⟨g1, o1 + jn, none⟩ = some (.int .u8 (bv : Int)) from fun W hb => ⟨(HKk.out W nv (hpb W hb)).2.2.2.2.1, hmc W hb, hcrd W hb⟩)
                          have HPb := Lib.hid hpb
                          have hd1 : decide ((0 : Int) ≤ (jn : Int)) = true := decide_eq_true (by omega)
                          have hd2 : decide ((jn : Int) < (L : Int)) = true := decide_eq_true (by omega)
                          have hd3 : decide (jn < L) = true := decide_eq_true (by omega)
                          have hj0 : (0 : Int) ≤ (jn : Int) := by omega
                          have hj1 : (jn : Int) < (L : Int) := by omega
                          clear hpc hml hpb hrm hrmd hmc hcr hcrd m2 hL hin s0 s1 s2
                          go_wp2_with fail
                          with_reducible refine HPc.out.mono ?_
                          rintro e w8 ⟨rfl, hb8⟩
                          have n1 : Below W7.heap.size W7 w8.drew := hb8.drew
                          clear hb8 HPc a0 a1 a2
                          go_wp2_with fail
                          refine wp_region_noPanic ?_
                          refine wp_region_held_drew (S := fun W => W.cell? ⟨wr.heap.size, 1, none⟩ = some (.int .i64 (jn : Int)) ∧ W.cell? ⟨v, 2, none⟩ = some (.slice (some ⟨g1, o1, none⟩) L cmo) ∧ W.cell? ⟨g1, o1 + jn, none⟩ = some (.int .u8 (bv : Int))) (by kernel_rfl) (HSk.out _ n1) (fun hHeld => ?_)
                          (refine wpAnyH_take (i := 0) (v := ?v0n1) (by simp only [List.getElem?_toArray, List.getElem?_cons_succ, List.getElem?_cons_zero]; rfl) (by kernel_rfl) (by kernel_rfl) (by kernel_rfl) (fun _ _ _ h => False.elim h) (Or.inl ⟨by rfl, ?hy0n1⟩) (by assumption) ?rest0n1; (case hy0n1 => (intro w hSw; (try dsimp only at hSw); go_simp; (try with_reducible rfl))); (try simp only [Act.put, List.setIfInBounds_toArray, List.set_cons_zero, List.set_cons_succ]))
                          (refine wpAnyH_take (i := 1) (v := ?v1n2) (by simp only [List.getElem?_toArray, List.getElem?_cons_succ, List.getElem?_cons_zero]; rfl) (by kernel_rfl) (by kernel_rfl) (by kernel_rfl) (fun _ _ _ h => False.elim h) (Or.inl ⟨by rfl, ?hy1n2⟩) (by assumption) ?rest1n2; (case hy1n2 => (intro w hSw; (try dsimp only at hSw); go_simp; (try with_reducible rfl))); (try simp only [Act.put, List.setIfInBounds_toArray, List.set_cons_zero, List.set_cons_succ]))
                          (refine wpAnyH_take (i := 2) (v := ?v2n3) (by simp only [List.getElem?_toArray, List.getElem?_cons_succ, List.getElem?_cons_zero]; rfl) (by kernel_rfl) (by kernel_rfl) (by kernel_rfl) (fun _ _ _ h => False.elim h) (Or.inl ⟨by rfl, ?hy2n3⟩) (by assumption) ?rest2n3; (case hy2n3 => (intro w hSw; (try dsimp only at hSw); go_simp; (try with_reducible rfl))); (try simp only [Act.put, List.setIfInBounds_toArray, List.set_cons_zero, List.set_cons_succ]))
                          (refine wpAnyH_take (i := 3) (v := ?v3n4) (by simp only [List.getElem?_toArray, List.getElem?_cons_succ, List.getElem?_cons_zero]; rfl) (by kernel_rfl) (by kernel_rfl) (by kernel_rfl) (fun _ _ _ h => False.elim h) (Or.inl ⟨by rfl, ?hy3n4⟩) (by assumption) ?rest3n4; (case hy3n4 => (intro w hSw; (try dsimp only at hSw); go_simp; (try with_reducible rfl))); (try simp only [Act.put, List.setIfInBounds_toArray, List.set_cons_zero, List.set_cons_succ]))
                          (refine wpAnyH_take (i := 4) (v := ?v4n5) (by simp only [List.getElem?_toArray, List.getElem?_cons_succ, List.getElem?_cons_zero]; rfl) (by kernel_rfl) (by kernel_rfl) (by kernel_rfl) (fun _ _ _ h => False.elim h) (Or.inl ⟨by rfl, ?hy4n5⟩) (by assumption) ?rest4n5; (case hy4n5 => (intro w hSw; (try dsimp only at hSw); go_simp; (try with_reducible rfl))); (try simp only [Act.put, List.setIfInBounds_toArray, List.set_cons_zero, List.set_cons_succ]))
                          (refine wpAnyH_take (i := 5) (v := ?v5n6) (by simp only [List.getElem?_toArray, List.getElem?_cons_succ, List.getElem?_cons_zero]; rfl) (by kernel_rfl) (by kernel_rfl) (by kernel_rfl) (fun _ _ _ h => False.elim h) (Or.inl ⟨by rfl, ?hy5n6⟩) (by assumption) ?rest5n6; (case hy5n6 => (intro w hSw; (try dsimp only at hSw); go_simp; (try with_reducible rfl))); (try simp only [Act.put, List.setIfInBounds_toArray, List.set_cons_zero, List.set_cons_succ]))
                          (refine wpAnyH_take (i := 6) (v := ?v6n7) (by simp only [List.getElem?_toArray, List.getElem?_cons_succ, List.getElem?_cons_zero]; rfl) (by kernel_rfl) (by kernel_rfl) (by kernel_rfl) (fun _ _ _ h => False.elim h) (Or.inl ⟨by rfl, ?hy6n7⟩) (by assumption) ?rest6n7; (case hy6n7 => (intro w hSw; (try dsimp only at hSw); go_simp; (try with_reducible rfl))); (try simp only [Act.put, List.setIfInBounds_toArray, List.set_cons_zero, List.set_cons_succ]))
                          (refine wpAnyH_take (i := 7) (v := ?v7n8) (by simp only [List.getElem?_toArray, List.getElem?_cons_succ, List.getElem?_cons_zero]; rfl) (by kernel_rfl) (by kernel_rfl) (by kernel_rfl) (fun _ _ _ h => False.elim h) (Or.inl ⟨by rfl, ?hy7n8⟩) (by assumption) ?rest7n8; (case hy7n8 => (intro w hSw; (try dsimp only at hSw); go_simp; (try with_reducible rfl))); (try simp only [Act.put, List.setIfInBounds_toArray, List.set_cons_zero, List.set_cons_succ]))
                          (refine wpAnyH_take (i := 8) (v := ?v8n9) (by simp only [List.getElem?_toArray, List.getElem?_cons_succ, List.getElem?_cons_zero]; rfl) (by kernel_rfl) (by kernel_rfl) (by kernel_rfl) (fun _ _ _ h => False.elim h) (Or.inl ⟨by rfl, ?hy8n9⟩) (by assumption) ?rest8n9; (case hy8n9 => (intro w hSw; (try dsimp only at hSw); go_simp; (try with_reducible rfl))); (try simp only [Act.put, List.setIfInBounds_toArray, List.set_cons_zero, List.set_cons_succ]))
                          (refine wpAnyH_take (i := 9) (v := ?v9n10) (by simp only [List.getElem?_toArray, List.getElem?_cons_succ, List.getElem?_cons_zero]; rfl) (by kernel_rfl) (by kernel_rfl) (by kernel_rfl) (fun _ _ _ h => False.elim h) (Or.inl ⟨by rfl, ?hy9n10⟩) (by assumption) ?rest9n10; (case hy9n10 => (intro w hSw; (try dsimp only at hSw); go_simp; (try with_reducible rfl))); (try simp only [Act.put, List.setIfInBounds_toArray, List.set_cons_zero, List.set_cons_succ]))
                          (refine wpAnyH_take (i := 10) (v := ?v10n11) (by simp only [List.getElem?_toArray, List.getElem?_cons_succ, List.getElem?_cons_zero]; rfl) (by kernel_rfl) (by kernel_rfl) (by kernel_rfl) (fun _ _ _ h => False.elim h) (Or.inl ⟨by rfl, ?hy10n11⟩) (by assumption) ?rest10n11; (case hy10n11 => (intro w hSw; (try dsimp only at hSw); go_simp; (try with_reducible rfl))); (try simp only [Act.put, List.setIfInBounds_toArray, List.set_cons_zero, List.set_cons_succ]))
                          (refine wpAnyH_take (i := 11) (v := ?v11n12) (by simp only [List.getElem?_toArray, List.getElem?_cons_succ, List.getElem?_cons_zero]; rfl) (by kernel_rfl) (by kernel_rfl) (by kernel_rfl) (fun _ _ _ h => False.elim h) (Or.inl ⟨by rfl, ?hy11n12⟩) (by assumption) ?rest11n12; (case hy11n12 => (intro w hSw; (try dsimp only at hSw); go_simp; (try with_reducible rfl))); (try simp only [Act.put, List.setIfInBounds_toArray, List.set_cons_zero, List.set_cons_succ]))
                          (refine wpAnyH_take (i := 12) (v := ?v12n13) (by simp only [List.getElem?_toArray, List.getElem?_cons_succ, List.getElem?_cons_zero]; rfl) (by kernel_rfl) (by kernel_rfl) (by kernel_rfl) (fun _ _ _ h => False.elim h) (Or.inl ⟨by rfl, ?hy12n13⟩) (by assumption) ?rest12n13; (case hy12n13 => (intro w hSw; (try dsimp only at hSw); go_simp; (try with_reducible rfl))); (try simp only [Act.put, List.setIfInBounds_toArray, List.set_cons_zero, List.set_cons_succ]))
                          (refine wpAnyH_take (i := 13) (v := ?v13n14) (by simp only [List.getElem?_toArray, List.getElem?_cons_succ, List.getElem?_cons_zero]; rfl) (by kernel_rfl) (by kernel_rfl) (by kernel_rfl) (fun _ _ _ h => False.elim h) (Or.inl ⟨by rfl, ?hy13n14⟩) (by assumption) ?rest13n14; (case hy13n14 => (intro w hSw; (try dsimp only at hSw); go_simp; (try with_reducible rfl))); (try simp only [Act.put, List.setIfInBounds_toArray, List.set_cons_zero, List.set_cons_succ]))
                          refine wpAnyH_done (by kernel_rfl) ?_ _
                          refine NoPanic.normal ?_
                          clear hHeld
                          have n2 : Below W7.heap.size W7 w8.drew.drew := n1.drew
                          clear n1
                          go_wp2_with fail
                          refine wp_region_noPanic ?_
                          refine wp_region_held_drew (S := fun W => W.cell? ⟨wr.heap.size, 1, none⟩ = some (.int .i64 (jn : Int)) ∧ W.cell? ⟨v, 2, none⟩ = some (.slice (some ⟨g1, o1, none⟩) L cmo) ∧ W.cell? ⟨g1, o1 + jn, none⟩ = some (.int .u8 (bv : Int))) (by kernel_rfl) (HSk.out _ n2) (fun hHeld => ?_)
                          (refine wpAnyH_take (i := 0) (v := ?v0n15) (by simp only [List.getElem?_toArray, List.getElem?_cons_succ, List.getElem?_cons_zero]; rfl) (by kernel_rfl) (by kernel_rfl) (by kernel_rfl) (fun _ _ _ h => False.elim h) (Or.inl ⟨by rfl, ?hy0n15⟩) (by assumption) ?rest0n15; (case hy0n15 => (intro w hSw; (try dsimp only at hSw); go_simp; (try with_reducible rfl))); (try simp only [Act.put, List.setIfInBounds_toArray, List.set_cons_zero, List.set_cons_succ]))
                          (refine wpAnyH_take (i := 1) (v := ?v1n16) (by simp only [List.getElem?_toArray, List.getElem?_cons_succ, List.getElem?_cons_zero]; rfl) (by kernel_rfl) (by kernel_rfl) (by kernel_rfl) (fun _ _ _ h => False.elim h) (Or.inl ⟨by rfl, ?hy1n16⟩) (by assumption) ?rest1n16; (case hy1n16 => (intro w hSw; (try dsimp only at hSw); go_simp; (try with_reducible rfl))); (try simp only [Act.put, List.setIfInBounds_toArray, List.set_cons_zero, List.set_cons_succ]))
                          (refine wpAnyH_take (i := 2) (v := ?v2n17) (by simp only [List.getElem?_toArray, List.getElem?_cons_succ, List.getElem?_cons_zero]; rfl) (by kernel_rfl) (by kernel_rfl) (by kernel_rfl) (fun _ _ _ h => False.elim h) (Or.inl ⟨by rfl, ?hy2n17⟩) (by assumption) ?rest2n17; (case hy2n17 => (intro w hSw; (try dsimp only at hSw); go_simp; (try with_reducible rfl))); (try simp only [Act.put, List.setIfInBounds_toArray, List.set_cons_zero, List.set_cons_succ]))
                          (refine wpAnyH_take (i := 3) (v := ?v3n18) (by simp only [List.getElem?_toArray, List.getElem?_cons_succ, List.getElem?_cons_zero]; rfl) (by kernel_rfl) (by kernel_rfl) (by kernel_rfl) (fun _ _ _ h => False.elim h) (Or.inl ⟨by rfl, ?hy3n18⟩) (by assumption) ?rest3n18; (case hy3n18 => (intro w hSw; (try dsimp only at hSw); go_simp; (try with_reducible rfl))); (try simp only [Act.put, List.setIfInBounds_toArray, List.set_cons_zero, List.set_cons_succ]))
                          (refine wpAnyH_take (i := 4) (v := ?v4n19) (by simp only [List.getElem?_toArray, List.getElem?_cons_succ, List.getElem?_cons_zero]; rfl) (by kernel_rfl) (by kernel_rfl) (by kernel_rfl) (fun _ _ _ h => False.elim h) (Or.inl ⟨by rfl, ?hy4n19⟩) (by assumption) ?rest4n19; (case hy4n19 => (intro w hSw; (try dsimp only at hSw); go_simp; (try with_reducible rfl))); (try simp only [Act.put, List.setIfInBounds_toArray, List.set_cons_zero, List.set_cons_succ]))
                          (refine wpAnyH_take (i := 5) (v := ?v5n20) (by simp only [List.getElem?_toArray, List.getElem?_cons_succ, List.getElem?_cons_zero]; rfl) (by kernel_rfl) (by kernel_rfl) (by kernel_rfl) (fun _ _ _ h => False.elim h) (Or.inl ⟨by rfl, ?hy5n20⟩) (by assumption) ?rest5n20; (case hy5n20 => (intro w hSw; (try dsimp only at hSw); go_simp; (try with_reducible rfl))); (try simp only [Act.put, List.setIfInBounds_toArray, List.set_cons_zero, List.set_cons_succ]))
                          (refine wpAnyH_take (i := 6) (v := ?v6n21) (by simp only [List.getElem?_toArray, List.getElem?_cons_succ, List.getElem?_cons_zero]; rfl) (by kernel_rfl) (by kernel_rfl) (by kernel_rfl) (fun _ _ _ h => False.elim h) (Or.inl ⟨by rfl, ?hy6n21⟩) (by assumption) ?rest6n21; (case hy6n21 => (intro w hSw; (try dsimp only at hSw); go_simp; (try with_reducible rfl))); (try simp only [Act.put, List.setIfInBounds_toArray, List.set_cons_zero, List.set_cons_succ]))
                          (refine wpAnyH_take (i := 7) (v := ?v7n22) (by simp only [List.getElem?_toArray, List.getElem?_cons_succ, List.getElem?_cons_zero]; rfl) (by kernel_rfl) (by kernel_rfl) (by kernel_rfl) (fun _ _ _ h => False.elim h) (Or.inl ⟨by rfl, ?hy7n22⟩) (by assumption) ?rest7n22; (case hy7n22 => (intro w hSw; (try dsimp only at hSw); go_simp; (try with_reducible rfl))); (try simp only [Act.put, List.setIfInBounds_toArray, List.set_cons_zero, List.set_cons_succ]))
                          (refine wpAnyH_take (i := 8) (v := ?v8n23) (by simp only [List.getElem?_toArray, List.getElem?_cons_succ, List.getElem?_cons_zero]; rfl) (by kernel_rfl) (by kernel_rfl) (by kernel_rfl) (fun _ _ _ h => False.elim h) (Or.inl ⟨by rfl, ?hy8n23⟩) (by assumption) ?rest8n23; (case hy8n23 => (intro w hSw; (try dsimp only at hSw); go_simp; (try with_reducible rfl))); (try simp only [Act.put, List.setIfInBounds_toArray, List.set_cons_zero, List.set_cons_succ]))
                          (refine wpAnyH_take (i := 9) (v := ?v9n24) (by simp only [List.getElem?_toArray, List.getElem?_cons_succ, List.getElem?_cons_zero]; rfl) (by kernel_rfl) (by kernel_rfl) (by kernel_rfl) (fun _ _ _ h => False.elim h) (Or.inl ⟨by rfl, ?hy9n24⟩) (by assumption) ?rest9n24; (case hy9n24 => (intro w hSw; (try dsimp only at hSw); go_simp; (try with_reducible rfl))); (try simp only [Act.put, List.setIfInBounds_toArray, List.set_cons_zero, List.set_cons_succ]))
                          (refine wpAnyH_take (i := 10) (v := ?v10n25) (by simp only [List.getElem?_toArray, List.getElem?_cons_succ, List.getElem?_cons_zero]; rfl) (by kernel_rfl) (by kernel_rfl) (by kernel_rfl) (fun _ _ _ h => False.elim h) (Or.inl ⟨by rfl, ?hy10n25⟩) (by assumption) ?rest10n25; (case hy10n25 => (intro w hSw; (try dsimp only at hSw); go_simp; (try with_reducible rfl))); (try simp only [Act.put, List.setIfInBounds_toArray, List.set_cons_zero, List.set_cons_succ]))
                          (refine wpAnyH_take (i := 11) (v := ?v11n26) (by simp only [List.getElem?_toArray, List.getElem?_cons_succ, List.getElem?_cons_zero]; rfl) (by kernel_rfl) (by kernel_rfl) (by kernel_rfl) (fun _ _ _ h => False.elim h) (Or.inl ⟨by rfl, ?hy11n26⟩) (by assumption) ?rest11n26; (case hy11n26 => (intro w hSw; (try dsimp only at hSw); go_simp; (try with_reducible rfl))); (try simp only [Act.put, List.setIfInBounds_toArray, List.set_cons_zero, List.set_cons_succ]))
                          (refine wpAnyH_take (i := 12) (v := ?v12n27) (by simp only [List.getElem?_toArray, List.getElem?_cons_succ, List.getElem?_cons_zero]; rfl) (by kernel_rfl) (by kernel_rfl) (by kernel_rfl) (fun _ _ _ h => False.elim h) (Or.inl ⟨by rfl, ?hy12n27⟩) (by assumption) ?rest12n27; (case hy12n27 => (intro w hSw; (try dsimp only at hSw); go_simp; (try with_reducible rfl))); (try simp only [Act.put, List.setIfInBounds_toArray, List.set_cons_zero, List.set_cons_succ]))
                          (refine wpAnyH_take (i := 13) (v := ?v13n28) (by simp only [List.getElem?_toArray, List.getElem?_cons_succ, List.getElem?_cons_zero]; rfl) (by kernel_rfl) (by kernel_rfl) (by kernel_rfl) (fun _ _ _ h => False.elim h) (Or.inl ⟨by rfl, ?hy13n28⟩) (by assumption) ?rest13n28; (case hy13n28 => (intro w hSw; (try dsimp only at hSw); go_simp; (try with_reducible rfl))); (try simp only [Act.put, List.setIfInBounds_toArray, List.set_cons_zero, List.set_cons_succ]))
                          (refine wpAnyH_take (i := 14) (v := ?v14n29) (by simp only [List.getElem?_toArray, List.getElem?_cons_succ, List.getElem?_cons_zero]; rfl) (by kernel_rfl) (by kernel_rfl) (by kernel_rfl) (fun _ _ _ h => False.elim h) (Or.inl ⟨by rfl, ?hy14n29⟩) (by assumption) ?rest14n29; (case hy14n29 => (intro w hSw; (try dsimp only at hSw); go_simp; (try with_reducible rfl))); (try simp only [Act.put, List.setIfInBounds_toArray, List.set_cons_zero, List.set_cons_succ]))
                          (refine wpAnyH_take (i := 15) (v := ?v15n30) (by simp only [List.getElem?_toArray, List.getElem?_cons_succ, List.getElem?_cons_zero]; rfl) (by kernel_rfl) (by kernel_rfl) (by kernel_rfl) (fun _ _ _ h => False.elim h) (Or.inl ⟨by rfl, ?hy15n30⟩) (by assumption) ?rest15n30; (case hy15n30 => (intro w hSw; (try dsimp only at hSw); go_simp; (try with_reducible rfl))); (try simp only [Act.put, List.setIfInBounds_toArray, List.set_cons_zero, List.set_cons_succ]))
                          (refine wpAnyH_take (i := 16) (v := ?v16n31) (by simp only [List.getElem?_toArray, List.getElem?_cons_succ, List.getElem?_cons_zero]; rfl) (by kernel_rfl) (by kernel_rfl) (by kernel_rfl) (fun _ _ _ h => False.elim h) (Or.inl ⟨by rfl, ?hy16n31⟩) (by assumption) ?rest16n31; (case hy16n31 => (intro w hSw; (try dsimp only at hSw); go_simp; (try with_reducible rfl))); (try simp only [Act.put, List.setIfInBounds_toArray, List.set_cons_zero, List.set_cons_succ]))
                          (refine wpAnyH_take (i := 17) (v := ?v17n32) (by simp only [List.getElem?_toArray, List.getElem?_cons_succ, List.getElem?_cons_zero]; rfl) (by kernel_rfl) (by kernel_rfl) (by kernel_rfl) (fun _ _ _ h => False.elim h) (Or.inl ⟨by rfl, ?hy17n32⟩) (by assumption) ?rest17n32; (case hy17n32 => (intro w hSw; (try dsimp only at hSw); go_simp; (try with_reducible rfl))); (try simp only [Act.put, List.setIfInBounds_toArray, List.set_cons_zero, List.set_cons_succ]))
                          (refine wpAnyH_take (i := 18) (v := ?v18n33) (by simp only [List.getElem?_toArray, List.getElem?_cons_succ, List.getElem?_cons_zero]; rfl) (by kernel_rfl) (by kernel_rfl) (by kernel_rfl) (fun _ _ _ h => False.elim h) (Or.inl ⟨by rfl, ?hy18n33⟩) (by assumption) ?rest18n33; (case hy18n33 => (intro w hSw; (try dsimp only at hSw); go_simp; (try with_reducible rfl))); (try simp only [Act.put, List.setIfInBounds_toArray, List.set_cons_zero, List.set_cons_succ]))
                          (refine wpAnyH_take (i := 19) (v := undef) (by simp only [List.getElem?_toArray, List.getElem?_cons_succ, List.getElem?_cons_zero]; rfl) (by kernel_rfl) (by kernel_rfl) (by kernel_rfl) (fun _ _ _ h => False.elim h) (Or.inr ⟨by rfl, rfl⟩) (by assumption) ?rest19s307; (try simp only [Act.put, List.setIfInBounds_toArray, List.set_cons_zero, List.set_cons_succ]))
                          (refine wpAnyH_take (i := 20) (v := undef) (by simp only [List.getElem?_toArray, List.getElem?_cons_succ, List.getElem?_cons_zero]; rfl) (by kernel_rfl) (by kernel_rfl) (by kernel_rfl) (fun _ _ _ h => False.elim h) (Or.inr ⟨by rfl, rfl⟩) (by assumption) ?rest20s308; (try simp only [Act.put, List.setIfInBounds_toArray, List.set_cons_zero, List.set_cons_succ]))
                          (refine wpAnyH_take (i := 21) (v := undef) (by simp only [List.getElem?_toArray, List.getElem?_cons_succ, List.getElem?_cons_zero]; rfl) (by kernel_rfl) (by kernel_rfl) (by kernel_rfl) (fun _ _ _ h => False.elim h) (Or.inr ⟨by rfl, rfl⟩) (by assumption) ?rest21s309; (try simp only [Act.put, List.setIfInBounds_toArray, List.set_cons_zero, List.set_cons_succ]))
                          (refine wpAnyH_take (i := 22) (v := undef) (by simp only [List.getElem?_toArray, List.getElem?_cons_succ, List.getElem?_cons_zero]; rfl) (by kernel_rfl) (by kernel_rfl) (by kernel_rfl) (fun _ _ _ h => False.elim h) (Or.inr ⟨by rfl, rfl⟩) (by assumption) ?rest22s310; (try simp only [Act.put, List.setIfInBounds_toArray, List.set_cons_zero, List.set_cons_succ]))
                          (refine wpAnyH_take (i := 23) (v := undef) (by simp only [List.getElem?_toArray, List.getElem?_cons_succ, List.getElem?_cons_zero]; rfl) (by kernel_rfl) (by kernel_rfl) (by kernel_rfl) (fun _ _ _ h => False.elim h) (Or.inr ⟨by rfl, rfl⟩) (by assumption) ?rest23s311; (try simp only [Act.put, List.setIfInBounds_toArray, List.set_cons_zero, List.set_cons_succ]))
                          (refine wpAnyH_take (i := 24) (v := undef) (by simp only [List.getElem?_toArray, List.getElem?_cons_succ, List.getElem?_cons_zero]; rfl) (by kernel_rfl) (by kernel_rfl) (by kernel_rfl) (fun _ _ _ h => False.elim h) (Or.inr ⟨by rfl, rfl⟩) (by assumption) ?rest24s312; (try simp only [Act.put, List.setIfInBounds_toArray, List.set_cons_zero, List.set_cons_succ]))
                          (refine wpAnyH_take (i := 25) (v := undef) (by simp only [List.getElem?_toArray, List.getElem?_cons_succ, List.getElem?_cons_zero]; rfl) (by kernel_rfl) (by kernel_rfl) (by kernel_rfl) (fun _ _ _ h => False.elim h) (Or.inr ⟨by rfl, rfl⟩) (by assumption) ?rest25s313; (try simp only [Act.put, List.setIfInBounds_toArray, List.set_cons_zero, List.set_cons_succ]))
                          (refine wpAnyH_take (i := 26) (v := ?v26n34) (by simp only [List.getElem?_toArray, List.getElem?_cons_succ, List.getElem?_cons_zero]; rfl) (by kernel_rfl) (by kernel_rfl) (by kernel_rfl) (fun _ _ _ h => False.elim h) (Or.inl ⟨by rfl, ?hy26n34⟩) (by assumption) ?rest26n34; (case hy26n34 => (intro w hSw; (try dsimp only at hSw); go_simp; (try with_reducible rfl))); (try simp only [Act.put, List.setIfInBounds_toArray, List.set_cons_zero, List.set_cons_succ]))
                          (refine wpAnyH_take (i := 27) (v := ?v27n35) (by simp only [List.getElem?_toArray, List.getElem?_cons_succ, List.getElem?_cons_zero]; rfl) (by kernel_rfl) (by kernel_rfl) (by kernel_rfl) (fun _ _ _ h => False.elim h) (Or.inl ⟨by rfl, ?hy27n35⟩) (by assumption) ?rest27n35; (case hy27n35 => (intro w hSw; (try dsimp only at hSw); go_simp; (try with_reducible rfl))); (try simp only [Act.put, List.setIfInBounds_toArray, List.set_cons_zero, List.set_cons_succ]))
                          (refine wpAnyH_take (i := 28) (v := ?v28n36) (by simp only [List.getElem?_toArray, List.getElem?_cons_succ, List.getElem?_cons_zero]; rfl) (by kernel_rfl) (by kernel_rfl) (by kernel_rfl) (fun _ _ _ h => False.elim h) (Or.inl ⟨by rfl, ?hy28n36⟩) (by assumption) ?rest28n36; (case hy28n36 => (intro w hSw; (try dsimp only at hSw); go_simp; (try with_reducible rfl))); (try simp only [Act.put, List.setIfInBounds_toArray, List.set_cons_zero, List.set_cons_succ]))
                          refine wpAnyH_done (by kernel_rfl) ?_ _
                          refine NoPanic.normal ?_
                          clear hHeld
                          have X8 := HPb.out _ n2
                          clear n2 HSk HPb
                          have HX8 := Lib.hid X8
                          clear X8
                          go_wp2_with fail
                          go_meet
                          case rel => first | exact ⟨by first | rfl | simp, cx, HX8.out, rfl, by have := HCm.out; omega⟩ | ((repeat apply Exists.intro); refine ⟨?r, ?f⟩; (case f => (and_intros <;> rfl)); exact ⟨by first | rfl | simp, cx, HX8.out, rfl, by have := HCm.out; omega⟩)
                        · have hz : (if 0 ≤ nn then cx.all.getD nn.toNat 0 else 0) = 0 := by
                            split
                            · rename_i h1
                              rw [List.getD_eq_getElem?_getD, List.getElem?_eq_none (by omega)]
                              rfl
                            · rfl
                          rw [hz, if_neg hin] at hpc
                          have hnm := fun W (hb : Below W7.heap.size W7 W) => (hpb W hb).num E HSz'.out (k := 1) (by decide) (by decide)
                          obtain ⟨qe, hqe⟩ := ee_some E (show (1 : Int) ≠ 0 by decide)
                          rw [hqe] at hpc hnm
                          obtain ⟨L, hL⟩ : ∃ L, cx.all.length = L := ⟨_, rfl⟩
                          rw [hL] at hmc hlc hin
                          have HPc := Lib.hid hpc
                          have HNm := Lib.hid hnm
                          have HSk := Lib.hid (show ∀ W, Below W7.heap.size W7 W → W.cell? ⟨wr.heap.size, 1, none⟩ = some (.int .i64 nn) ∧ W.cell? ⟨v, 2, none⟩ = some (.slice amo L cmo) from fun W hb => ⟨(HKk.out W nv (hpb W hb)).2.2.2.2.1, hmc W hb⟩)
                          have HPb := Lib.hid hpb
                          clear hpc hnm hml hpb hrm hrmd hmc m2 hL hqe hz s0 s1 s2
                          go_wp2_with fail
                          with_reducible refine HPc.out.mono ?_
                          rintro e w8 ⟨rfl, hb8⟩
                          have n1 : Below W7.heap.size W7 w8.drew := hb8.drew
                          clear hb8 HPc a0 a1 a2
                          by_cases hn0 : 0 ≤ nn
                          · have hd1 : decide ((0 : Int) ≤ nn) = true := decide_eq_true hn0
                            have hd2 : decide (nn < (L : Int)) = false := decide_eq_false (by omega)
                            go_wp2_with fail
                            refine wp_region_noPanic ?_
                            refine wp_region_held_drew (S := fun W => W.cell? ⟨wr.heap.size, 1, none⟩ = some (.int .i64 nn) ∧ W.cell? ⟨v, 2, none⟩ = some (.slice amo L cmo)) (by kernel_rfl) (HSk.out _ n1) (fun hHeld => ?_)
                            (refine wpAnyH_take (i := 0) (v := ?v0n37) (by simp only [List.getElem?_toArray, List.getElem?_cons_succ, List.getElem?_cons_zero]; rfl) (by kernel_rfl) (by kernel_rfl) (by kernel_rfl) (fun _ _ _ h => False.elim h) (Or.inl ⟨by rfl, ?hy0n37⟩) (by assumption) ?rest0n37; (case hy0n37 => (intro w hSw; (try dsimp only at hSw); go_simp; (try with_reducible rfl))); (try simp only [Act.put, List.setIfInBounds_toArray, List.set_cons_zero, List.set_cons_succ]))
                            (refine wpAnyH_take (i := 1) (v := ?v1n38) (by simp only [List.getElem?_toArray, List.getElem?_cons_succ, List.getElem?_cons_zero]; rfl) (by kernel_rfl) (by kernel_rfl) (by kernel_rfl) (fun _ _ _ h => False.elim h) (Or.inl ⟨by rfl, ?hy1n38⟩) (by assumption) ?rest1n38; (case hy1n38 => (intro w hSw; (try dsimp only at hSw); go_simp; (try with_reducible rfl))); (try simp only [Act.put, List.setIfInBounds_toArray, List.set_cons_zero, List.set_cons_succ]))
                            (refine wpAnyH_take (i := 2) (v := ?v2n39) (by simp only [List.getElem?_toArray, List.getElem?_cons_succ, List.getElem?_cons_zero]; rfl) (by kernel_rfl) (by kernel_rfl) (by kernel_rfl) (fun _ _ _ h => False.elim h) (Or.inl ⟨by rfl, ?hy2n39⟩) (by assumption) ?rest2n39; (case hy2n39 => (intro w hSw; (try dsimp only at hSw); go_simp; (try with_reducible rfl))); (try simp only [Act.put, List.setIfInBounds_toArray, List.set_cons_zero, List.set_cons_succ]))
                            (refine wpAnyH_take (i := 3) (v := ?v3n40) (by simp only [List.getElem?_toArray, List.getElem?_cons_succ, List.getElem?_cons_zero]; rfl) (by kernel_rfl) (by kernel_rfl) (by kernel_rfl) (fun _ _ _ h => False.elim h) (Or.inl ⟨by rfl, ?hy3n40⟩) (by assumption) ?rest3n40; (case hy3n40 => (intro w hSw; (try dsimp only at hSw); go_simp; (try with_reducible rfl))); (try simp only [Act.put, List.setIfInBounds_toArray, List.set_cons_zero, List.set_cons_succ]))
                            (refine wpAnyH_take (i := 4) (v := ?v4n41) (by simp only [List.getElem?_toArray, List.getElem?_cons_succ, List.getElem?_cons_zero]; rfl) (by kernel_rfl) (by kernel_rfl) (by kernel_rfl) (fun _ _ _ h => False.elim h) (Or.inl ⟨by rfl, ?hy4n41⟩) (by assumption) ?rest4n41; (case hy4n41 => (intro w hSw; (try dsimp only at hSw); go_simp; (try with_reducible rfl))); (try simp only [Act.put, List.setIfInBounds_toArray, List.set_cons_zero, List.set_cons_succ]))
                            (refine wpAnyH_take (i := 5) (v := ?v5n42) (by simp only [List.getElem?_toArray, List.getElem?_cons_succ, List.getElem?_cons_zero]; rfl) (by kernel_rfl) (by kernel_rfl) (by kernel_rfl) (fun _ _ _ h => False.elim h) (Or.inl ⟨by rfl, ?hy5n42⟩) (by assumption) ?rest5n42; (case hy5n42 => (intro w hSw; (try dsimp only at hSw); go_simp; (try with_reducible rfl))); (try simp only [Act.put, List.setIfInBounds_toArray, List.set_cons_zero, List.set_cons_succ]))
                            (refine wpAnyH_take (i := 6) (v := ?v6n43) (by simp only [List.getElem?_toArray, List.getElem?_cons_succ, List.getElem?_cons_zero]; rfl) (by kernel_rfl) (by kernel_rfl) (by kernel_rfl) (fun _ _ _ h => False.elim h) (Or.inl ⟨by rfl, ?hy6n43⟩) (by assumption) ?rest6n43; (case hy6n43 => (intro w hSw; (try dsimp only at hSw); go_simp; (try with_reducible rfl))); (try simp only [Act.put, List.setIfInBounds_toArray, List.set_cons_zero, List.set_cons_succ]))
                            (refine wpAnyH_take (i := 7) (v := ?v7n44) (by simp only [List.getElem?_toArray, List.getElem?_cons_succ, List.getElem?_cons_zero]; rfl) (by kernel_rfl) (by kernel_rfl) (by kernel_rfl) (fun _ _ _ h => False.elim h) (Or.inl ⟨by rfl, ?hy7n44⟩) (by assumption) ?rest7n44; (case hy7n44 => (intro w hSw; (try dsimp only at hSw); go_simp; (try with_reducible rfl))); (try simp only [Act.put, List.setIfInBounds_toArray, List.set_cons_zero, List.set_cons_succ]))
                            (refine wpAnyH_take (i := 8) (v := ?v8n45) (by simp only [List.getElem?_toArray, List.getElem?_cons_succ, List.getElem?_cons_zero]; rfl) (by kernel_rfl) (by kernel_rfl) (by kernel_rfl) (fun _ _ _ h => False.elim h) (Or.inl ⟨by rfl, ?hy8n45⟩) (by assumption) ?rest8n45; (case hy8n45 => (intro w hSw; (try dsimp only at hSw); go_simp; (try with_reducible rfl))); (try simp only [Act.put, List.setIfInBounds_toArray, List.set_cons_zero, List.set_cons_succ]))
                            (refine wpAnyH_take (i := 9) (v := ?v9n46) (by simp only [List.getElem?_toArray, List.getElem?_cons_succ, List.getElem?_cons_zero]; rfl) (by kernel_rfl) (by kernel_rfl) (by kernel_rfl) (fun _ _ _ h => False.elim h) (Or.inl ⟨by rfl, ?hy9n46⟩) (by assumption) ?rest9n46; (case hy9n46 => (intro w hSw; (try dsimp only at hSw); go_simp; (try with_reducible rfl))); (try simp only [Act.put, List.setIfInBounds_toArray, List.set_cons_zero, List.set_cons_succ]))
                            (refine wpAnyH_take (i := 10) (v := ?v10n47) (by simp only [List.getElem?_toArray, List.getElem?_cons_succ, List.getElem?_cons_zero]; rfl) (by kernel_rfl) (by kernel_rfl) (by kernel_rfl) (fun _ _ _ h => False.elim h) (Or.inl ⟨by rfl, ?hy10n47⟩) (by assumption) ?rest10n47; (case hy10n47 => (intro w hSw; (try dsimp only at hSw); go_simp; (try with_reducible rfl))); (try simp only [Act.put, List.setIfInBounds_toArray, List.set_cons_zero, List.set_cons_succ]))
                            (refine wpAnyH_take (i := 11) (v := ?v11n48) (by simp only [List.getElem?_toArray, List.getElem?_cons_succ, List.getElem?_cons_zero]; rfl) (by kernel_rfl) (by kernel_rfl) (by kernel_rfl) (fun _ _ _ h => False.elim h) (Or.inl ⟨by rfl, ?hy11n48⟩) (by assumption) ?rest11n48; (case hy11n48 => (intro w hSw; (try dsimp only at hSw); go_simp; (try with_reducible rfl))); (try simp only [Act.put, List.setIfInBounds_toArray, List.set_cons_zero, List.set_cons_succ]))
                            (refine wpAnyH_take (i := 12) (v := ?v12n49) (by simp only [List.getElem?_toArray, List.getElem?_cons_succ, List.getElem?_cons_zero]; rfl) (by kernel_rfl) (by kernel_rfl) (by kernel_rfl) (fun _ _ _ h => False.elim h) (Or.inl ⟨by rfl, ?hy12n49⟩) (by assumption) ?rest12n49; (case hy12n49 => (intro w hSw; (try dsimp only at hSw); go_simp; (try with_reducible rfl))); (try simp only [Act.put, List.setIfInBounds_toArray, List.set_cons_zero, List.set_cons_succ]))
                            (refine wpAnyH_take (i := 13) (v := ?v13n50) (by simp only [List.getElem?_toArray, List.getElem?_cons_succ, List.getElem?_cons_zero]; rfl) (by kernel_rfl) (by kernel_rfl) (by kernel_rfl) (fun _ _ _ h => False.elim h) (Or.inl ⟨by rfl, ?hy13n50⟩) (by assumption) ?rest13n50; (case hy13n50 => (intro w hSw; (try dsimp only at hSw); go_simp; (try with_reducible rfl))); (try simp only [Act.put, List.setIfInBounds_toArray, List.set_cons_zero, List.set_cons_succ]))
                            refine wpAnyH_done (by kernel_rfl) ?_ _
                            refine NoPanic.normal ?_
                            clear hHeld
                            have n2 : Below W7.heap.size W7 w8.drew.drew := n1.drew
                            clear n1
                            go_wp2_with fail
                            refine wp_region_noPanic ?_
                            refine wp_region_held_drew (S := fun _ => True) (by kernel_rfl) (trivial) (fun hHeld => ?_)
                            (refine wpAnyH_take (i := 0) (v := ?v0n51) (by simp only [List.getElem?_toArray, List.getElem?_cons_succ, List.getElem?_cons_zero]; rfl) (by kernel_rfl) (by kernel_rfl) (by kernel_rfl) (fun _ _ _ h => False.elim h) (Or.inl ⟨by rfl, ?hy0n51⟩) (by assumption) ?rest0n51; (case hy0n51 => (intro w hSw; (try dsimp only at hSw); go_simp; (try with_reducible rfl))); (try simp only [Act.put, List.setIfInBounds_toArray, List.set_cons_zero, List.set_cons_succ]))
                            (refine wpAnyH_take (i := 1) (v := ?v1n52) (by simp only [List.getElem?_toArray, List.getElem?_cons_succ, List.getElem?_cons_zero]; rfl) (by kernel_rfl) (by kernel_rfl) (by kernel_rfl) (fun _ _ _ h => False.elim h) (Or.inl ⟨by rfl, ?hy1n52⟩) (by assumption) ?rest1n52; (case hy1n52 => (intro w hSw; (try dsimp only at hSw); go_simp; (try with_reducible rfl))); (try simp only [Act.put, List.setIfInBounds_toArray, List.set_cons_zero, List.set_cons_succ]))
                            (refine wpAnyH_take (i := 2) (v := ?v2n53) (by simp only [List.getElem?_toArray, List.getElem?_cons_succ, List.getElem?_cons_zero]; rfl) (by kernel_rfl) (by kernel_rfl) (by kernel_rfl) (fun _ _ _ h => False.elim h) (Or.inl ⟨by rfl, ?hy2n53⟩) (by assumption) ?rest2n53; (case hy2n53 => (intro w hSw; (try dsimp only at hSw); go_simp; (try with_reducible rfl))); (try simp only [Act.put, List.setIfInBounds_toArray, List.set_cons_zero, List.set_cons_succ]))
                            (refine wpAnyH_take (i := 3) (v := ?v3n54) (by simp only [List.getElem?_toArray, List.getElem?_cons_succ, List.getElem?_cons_zero]; rfl) (by kernel_rfl) (by kernel_rfl) (by kernel_rfl) (fun _ _ _ h => False.elim h) (Or.inl ⟨by rfl, ?hy3n54⟩) (by assumption) ?rest3n54; (case hy3n54 => (intro w hSw; (try dsimp only at hSw); go_simp; (try with_reducible rfl))); (try simp only [Act.put, List.setIfInBounds_toArray, List.set_cons_zero, List.set_cons_succ]))
                            (refine wpAnyH_take (i := 4) (v := ?v4n55) (by simp only [List.getElem?_toArray, List.getElem?_cons_succ, List.getElem?_cons_zero]; rfl) (by kernel_rfl) (by kernel_rfl) (by kernel_rfl) (fun _ _ _ h => False.elim h) (Or.inl ⟨by rfl, ?hy4n55⟩) (by assumption) ?rest4n55; (case hy4n55 => (intro w hSw; (try dsimp only at hSw); go_simp; (try with_reducible rfl))); (try simp only [Act.put, List.setIfInBounds_toArray, List.set_cons_zero, List.set_cons_succ]))
                            (refine wpAnyH_take (i := 5) (v := ?v5n56) (by simp only [List.getElem?_toArray, List.getElem?_cons_succ, List.getElem?_cons_zero]; rfl) (by kernel_rfl) (by kernel_rfl) (by kernel_rfl) (fun _ _ _ h => False.elim h) (Or.inl ⟨by rfl, ?hy5n56⟩) (by assumption) ?rest5n56; (case hy5n56 => (intro w hSw; (try dsimp only at hSw); go_simp; (try with_reducible rfl))); (try simp only [Act.put, List.setIfInBounds_toArray, List.set_cons_zero, List.set_cons_succ]))
                            (refine wpAnyH_take (i := 6) (v := ?v6n57) (by simp only [List.getElem?_toArray, List.getElem?_cons_succ, List.getElem?_cons_zero]; rfl) (by kernel_rfl) (by kernel_rfl) (by kernel_rfl) (fun _ _ _ h => False.elim h) (Or.inl ⟨by rfl, ?hy6n57⟩) (by assumption) ?rest6n57; (case hy6n57 => (intro w hSw; (try dsimp only at hSw); go_simp; (try with_reducible rfl))); (try simp only [Act.put, List.setIfInBounds_toArray, List.set_cons_zero, List.set_cons_succ]))
                            (refine wpAnyH_take (i := 7) (v := undef) (by simp only [List.getElem?_toArray, List.getElem?_cons_succ, List.getElem?_cons_zero]; rfl) (by kernel_rfl) (by kernel_rfl) (by kernel_rfl) (fun _ _ _ h => False.elim h) (Or.inr ⟨by rfl, rfl⟩) (by assumption) ?rest7s314; (try simp only [Act.put, List.setIfInBounds_toArray, List.set_cons_zero, List.set_cons_succ]))
                            (refine wpAnyH_take (i := 8) (v := undef) (by simp only [List.getElem?_toArray, List.getElem?_cons_succ, List.getElem?_cons_zero]; rfl) (by kernel_rfl) (by kernel_rfl) (by kernel_rfl) (fun _ _ _ h => False.elim h) (Or.inr ⟨by rfl, rfl⟩) (by assumption) ?rest8s315; (try simp only [Act.put, List.setIfInBounds_toArray, List.set_cons_zero, List.set_cons_succ]))
                            (refine wpAnyH_take (i := 9) (v := undef) (by simp only [List.getElem?_toArray, List.getElem?_cons_succ, List.getElem?_cons_zero]; rfl) (by kernel_rfl) (by kernel_rfl) (by kernel_rfl) (fun _ _ _ h => False.elim h) (Or.inr ⟨by rfl, rfl⟩) (by assumption) ?rest9s316; (try simp only [Act.put, List.setIfInBounds_toArray, List.set_cons_zero, List.set_cons_succ]))
                            (refine wpAnyH_take (i := 10) (v := undef) (by simp only [List.getElem?_toArray, List.getElem?_cons_succ, List.getElem?_cons_zero]; rfl) (by kernel_rfl) (by kernel_rfl) (by kernel_rfl) (fun _ _ _ h => False.elim h) (Or.inr ⟨by rfl, rfl⟩) (by assumption) ?rest10s317; (try simp only [Act.put, List.setIfInBounds_toArray, List.set_cons_zero, List.set_cons_succ]))
                            (refine wpAnyH_take (i := 11) (v := undef) (by simp only [List.getElem?_toArray, List.getElem?_cons_succ, List.getElem?_cons_zero]; rfl) (by kernel_rfl) (by kernel_rfl) (by kernel_rfl) (fun _ _ _ h => False.elim h) (Or.inr ⟨by rfl, rfl⟩) (by assumption) ?rest11s318; (try simp only [Act.put, List.setIfInBounds_toArray, List.set_cons_zero, List.set_cons_succ]))
                            (refine wpAnyH_take (i := 12) (v := undef) (by simp only [List.getElem?_toArray, List.getElem?_cons_succ, List.getElem?_cons_zero]; rfl) (by kernel_rfl) (by kernel_rfl) (by kernel_rfl) (fun _ _ _ h => False.elim h) (Or.inr ⟨by rfl, rfl⟩) (by assumption) ?rest12s319; (try simp only [Act.put, List.setIfInBounds_toArray, List.set_cons_zero, List.set_cons_succ]))
                            (refine wpAnyH_take (i := 13) (v := undef) (by simp only [List.getElem?_toArray, List.getElem?_cons_succ, List.getElem?_cons_zero]; rfl) (by kernel_rfl) (by kernel_rfl) (by kernel_rfl) (fun _ _ _ h => False.elim h) (Or.inr ⟨by rfl, rfl⟩) (by assumption) ?rest13s320; (try simp only [Act.put, List.setIfInBounds_toArray, List.set_cons_zero, List.set_cons_succ]))
                            (refine wpAnyH_take (i := 14) (v := undef) (by simp only [List.getElem?_toArray, List.getElem?_cons_succ, List.getElem?_cons_zero]; rfl) (by kernel_rfl) (by kernel_rfl) (by kernel_rfl) (fun _ _ _ h => False.elim h) (Or.inr ⟨by rfl, rfl⟩) (by assumption) ?rest14s321; (try simp only [Act.put, List.setIfInBounds_toArray, List.set_cons_zero, List.set_cons_succ]))
                            (refine wpAnyH_take (i := 15) (v := undef) (by simp only [List.getElem?_toArray, List.getElem?_cons_succ, List.getElem?_cons_zero]; rfl) (by kernel_rfl) (by kernel_rfl) (by kernel_rfl) (fun _ _ _ h => False.elim h) (Or.inr ⟨by rfl, rfl⟩) (by assumption) ?rest15s322; (try simp only [Act.put, List.setIfInBounds_toArray, List.set_cons_zero, List.set_cons_succ]))
                            (refine wpAnyH_take (i := 16) (v := undef) (by simp only [List.getElem?_toArray, List.getElem?_cons_succ, List.getElem?_cons_zero]; rfl) (by kernel_rfl) (by kernel_rfl) (by kernel_rfl) (fun _ _ _ h => False.elim h) (Or.inr ⟨by rfl, rfl⟩) (by assumption) ?rest16s323; (try simp only [Act.put, List.setIfInBounds_toArray, List.set_cons_zero, List.set_cons_succ]))
                            (refine wpAnyH_take (i := 17) (v := ?v17n58) (by simp only [List.getElem?_toArray, List.getElem?_cons_succ, List.getElem?_cons_zero]; rfl) (by kernel_rfl) (by kernel_rfl) (by kernel_rfl) (fun _ _ _ h => False.elim h) (Or.inl ⟨by rfl, ?hy17n58⟩) (by assumption) ?rest17n58; (case hy17n58 => (intro w hSw; (try dsimp only at hSw); go_simp; (try with_reducible rfl))); (try simp only [Act.put, List.setIfInBounds_toArray, List.set_cons_zero, List.set_cons_succ]))
                            (refine wpAnyH_take (i := 18) (v := ?v18n59) (by simp only [List.getElem?_toArray, List.getElem?_cons_succ, List.getElem?_cons_zero]; rfl) (by kernel_rfl) (by kernel_rfl) (by kernel_rfl) (fun _ _ _ h => False.elim h) (Or.inl ⟨by rfl, ?hy18n59⟩) (by assumption) ?rest18n59; (case hy18n59 => (intro w hSw; (try dsimp only at hSw); go_simp; (try with_reducible rfl))); (try simp only [Act.put, List.setIfInBounds_toArray, List.set_cons_zero, List.set_cons_succ]))
                            (refine wpAnyH_take (i := 19) (v := ?v19n60) (by simp only [List.getElem?_toArray, List.getElem?_cons_succ, List.getElem?_cons_zero]; rfl) (by kernel_rfl) (by kernel_rfl) (by kernel_rfl) (fun _ _ _ h => False.elim h) (Or.inl ⟨by rfl, ?hy19n60⟩) (by assumption) ?rest19n60; (case hy19n60 => (intro w hSw; (try dsimp only at hSw); go_simp; (try with_reducible rfl))); (try simp only [Act.put, List.setIfInBounds_toArray, List.set_cons_zero, List.set_cons_succ]))
                            (refine wpAnyH_take (i := 20) (v := ?v20n61) (by simp only [List.getElem?_toArray, List.getElem?_cons_succ, List.getElem?_cons_zero]; rfl) (by kernel_rfl) (by kernel_rfl) (by kernel_rfl) (fun _ _ _ h => False.elim h) (Or.inl ⟨by rfl, ?hy20n61⟩) (by assumption) ?rest20n61; (case hy20n61 => (intro w hSw; (try dsimp only at hSw); go_simp; (try with_reducible rfl))); (try simp only [Act.put, List.setIfInBounds_toArray, List.set_cons_zero, List.set_cons_succ]))
                            (refine wpAnyH_take (i := 21) (v := ?v21n62) (by simp only [List.getElem?_toArray, List.getElem?_cons_succ, List.getElem?_cons_zero]; rfl) (by kernel_rfl) (by kernel_rfl) (by kernel_rfl) (fun _ _ _ h => False.elim h) (Or.inl ⟨by rfl, ?hy21n62⟩) (by assumption) ?rest21n62; (case hy21n62 => (intro w hSw; (try dsimp only at hSw); go_simp; (try with_reducible rfl))); (try simp only [Act.put, List.setIfInBounds_toArray, List.set_cons_zero, List.set_cons_succ]))
                            (refine wpAnyH_take (i := 22) (v := ?v22n63) (by simp only [List.getElem?_toArray, List.getElem?_cons_succ, List.getElem?_cons_zero]; rfl) (by kernel_rfl) (by kernel_rfl) (by kernel_rfl) (fun _ _ _ h => False.elim h) (Or.inl ⟨by rfl, ?hy22n63⟩) (by assumption) ?rest22n63; (case hy22n63 => (intro w hSw; (try dsimp only at hSw); go_simp; (try with_reducible rfl))); (try simp only [Act.put, List.setIfInBounds_toArray, List.set_cons_zero, List.set_cons_succ]))
                            (refine wpAnyH_ready (rs := [23]) (by kernel_rfl) (by simp) ?_; refine AllReadyH.cons (o := _) (by simp only [List.getElem?_toArray, List.getElem?_cons_succ, List.getElem?_cons_zero]; rfl) (fun K hK => ?_) AllReadyH.nil; go_simp; ((with_reducible refine (HNm.out _ n2).mono ?_); rintro e w9 ⟨rfl, hP9⟩); refine hK.out _ _ (by trivial) (fun hHeld => ?_); clear hK K; (try simp only [Act.put, List.setIfInBounds_toArray, List.set_cons_zero, List.set_cons_succ]))
                            (refine wpAnyH_take (i := 24) (v := ?v24n64) (by simp only [List.getElem?_toArray, List.getElem?_cons_succ, List.getElem?_cons_zero]; rfl) (by kernel_rfl) (by kernel_rfl) (by kernel_rfl) (fun _ _ _ h => False.elim h) (Or.inl ⟨by rfl, ?hy24n64⟩) (by assumption) ?rest24n64; (case hy24n64 => (intro w hSw; (try dsimp only at hSw); go_simp; (try with_reducible rfl))); (try simp only [Act.put, List.setIfInBounds_toArray, List.set_cons_zero, List.set_cons_succ]))
                            (refine wpAnyH_take (i := 25) (v := ?v25n65) (by simp only [List.getElem?_toArray, List.getElem?_cons_succ, List.getElem?_cons_zero]; rfl) (by kernel_rfl) (by kernel_rfl) (by kernel_rfl) (fun _ _ _ h => False.elim h) (Or.inl ⟨by rfl, ?hy25n65⟩) (by assumption) ?rest25n65; (case hy25n65 => (intro w hSw; (try dsimp only at hSw); go_simp; (try with_reducible rfl))); (try simp only [Act.put, List.setIfInBounds_toArray, List.set_cons_zero, List.set_cons_succ]))
                            (refine wpAnyH_take (i := 26) (v := ?v26n66) (by simp only [List.getElem?_toArray, List.getElem?_cons_succ, List.getElem?_cons_zero]; rfl) (by kernel_rfl) (by kernel_rfl) (by kernel_rfl) (fun _ _ _ h => False.elim h) (Or.inl ⟨by rfl, ?hy26n66⟩) (by assumption) ?rest26n66; (case hy26n66 => (intro w hSw; (try dsimp only at hSw); go_simp; (try with_reducible rfl))); (try simp only [Act.put, List.setIfInBounds_toArray, List.set_cons_zero, List.set_cons_succ]))
                            (refine wpAnyH_take (i := 27) (v := ?v27n67) (by simp only [List.getElem?_toArray, List.getElem?_cons_succ, List.getElem?_cons_zero]; rfl) (by kernel_rfl) (by kernel_rfl) (by kernel_rfl) (fun _ _ _ h => False.elim h) (Or.inl ⟨by rfl, ?hy27n67⟩) (by assumption) ?rest27n67; (case hy27n67 => (intro w hSw; (try dsimp only at hSw); go_simp; (try with_reducible rfl))); (try simp only [Act.put, List.setIfInBounds_toArray, List.set_cons_zero, List.set_cons_succ]))
                            (refine wpAnyH_take (i := 28) (v := ?v28n68) (by simp only [List.getElem?_toArray, List.getElem?_cons_succ, List.getElem?_cons_zero]; rfl) (by kernel_rfl) (by kernel_rfl) (by kernel_rfl) (fun _ _ _ h => False.elim h) (Or.inl ⟨by rfl, ?hy28n68⟩) (by assumption) ?rest28n68; (case hy28n68 => (intro w hSw; (try dsimp only at hSw); go_simp; (try with_reducible rfl))); (try simp only [Act.put, List.setIfInBounds_toArray, List.set_cons_zero, List.set_cons_succ]))
                            refine wpAnyH_done (by kernel_rfl) ?_ _
                            refine NoPanic.normal ?_
                            clear hHeld
                            have X8 := hP9
                            clear n2 hP9 HSk HPb HNm
                            have HX8 := Lib.hid X8
                            clear X8
                            go_wp2_with fail
                            go_meet
                            case rel => first | exact ⟨by first | rfl | simp, cx, HX8.out, rfl, by have := HCm.out; omega⟩ | ((repeat apply Exists.intro); refine ⟨?r, ?f⟩; (case f => (and_intros <;> rfl)); exact ⟨by first | rfl | simp, cx, HX8.out, rfl, by have := HCm.out; omega⟩)
                          · have hd1 : decide ((0 : Int) ≤ nn) = false := decide_eq_false hn0
                            go_wp2_with fail
                            refine wp_region_noPanic ?_
                            refine wp_region_held_drew (S := fun W => W.cell? ⟨wr.heap.size, 1, none⟩ = some (.int .i64 nn) ∧ W.cell? ⟨v, 2, none⟩ = some (.slice amo L cmo)) (by kernel_rfl) (HSk.out _ n1) (fun hHeld => ?_)
                            (refine wpAnyH_take (i := 0) (v := ?v0n69) (by simp only [List.getElem?_toArray, List.getElem?_cons_succ, List.getElem?_cons_zero]; rfl) (by kernel_rfl) (by kernel_rfl) (by kernel_rfl) (fun _ _ _ h => False.elim h) (Or.inl ⟨by rfl, ?hy0n69⟩) (by assumption) ?rest0n69; (case hy0n69 => (intro w hSw; (try dsimp only at hSw); go_simp; (try with_reducible rfl))); (try simp only [Act.put, List.setIfInBounds_toArray, List.set_cons_zero, List.set_cons_succ]))
                            (refine wpAnyH_take (i := 1) (v := ?v1n70) (by simp only [List.getElem?_toArray, List.getElem?_cons_succ, List.getElem?_cons_zero]; rfl) (by kernel_rfl) (by kernel_rfl) (by kernel_rfl) (fun _ _ _ h => False.elim h) (Or.inl ⟨by rfl, ?hy1n70⟩) (by assumption) ?rest1n70; (case hy1n70 => (intro w hSw; (try dsimp only at hSw); go_simp; (try with_reducible rfl))); (try simp only [Act.put, List.setIfInBounds_toArray, List.set_cons_zero, List.set_cons_succ]))
                            (refine wpAnyH_take (i := 2) (v := ?v2n71) (by simp only [List.getElem?_toArray, List.getElem?_cons_succ, List.getElem?_cons_zero]; rfl) (by kernel_rfl) (by kernel_rfl) (by kernel_rfl) (fun _ _ _ h => False.elim h) (Or.inl ⟨by rfl, ?hy2n71⟩) (by assumption) ?rest2n71; (case hy2n71 => (intro w hSw; (try dsimp only at hSw); go_simp; (try with_reducible rfl))); (try simp only [Act.put, List.setIfInBounds_toArray, List.set_cons_zero, List.set_cons_succ]))
                            (refine wpAnyH_take (i := 3) (v := ?v3n72) (by simp only [List.getElem?_toArray, List.getElem?_cons_succ, List.getElem?_cons_zero]; rfl) (by kernel_rfl) (by kernel_rfl) (by kernel_rfl) (fun _ _ _ h => False.elim h) (Or.inl ⟨by rfl, ?hy3n72⟩) (by assumption) ?rest3n72; (case hy3n72 => (intro w hSw; (try dsimp only at hSw); go_simp; (try with_reducible rfl))); (try simp only [Act.put, List.setIfInBounds_toArray, List.set_cons_zero, List.set_cons_succ]))
                            (refine wpAnyH_take (i := 4) (v := undef) (by simp only [List.getElem?_toArray, List.getElem?_cons_succ, List.getElem?_cons_zero]; rfl) (by kernel_rfl) (by kernel_rfl) (by kernel_rfl) (fun _ _ _ h => False.elim h) (Or.inr ⟨by rfl, rfl⟩) (by assumption) ?rest4s324; (try simp only [Act.put, List.setIfInBounds_toArray, List.set_cons_zero, List.set_cons_succ]))
                            (refine wpAnyH_take (i := 5) (v := undef) (by simp only [List.getElem?_toArray, List.getElem?_cons_succ, List.getElem?_cons_zero]; rfl) (by kernel_rfl) (by kernel_rfl) (by kernel_rfl) (fun _ _ _ h => False.elim h) (Or.inr ⟨by rfl, rfl⟩) (by assumption) ?rest5s325; (try simp only [Act.put, List.setIfInBounds_toArray, List.set_cons_zero, List.set_cons_succ]))
                            (refine wpAnyH_take (i := 6) (v := undef) (by simp only [List.getElem?_toArray, List.getElem?_cons_succ, List.getElem?_cons_zero]; rfl) (by kernel_rfl) (by kernel_rfl) (by kernel_rfl) (fun _ _ _ h => False.elim h) (Or.inr ⟨by rfl, rfl⟩) (by assumption) ?rest6s326; (try simp only [Act.put, List.setIfInBounds_toArray, List.set_cons_zero, List.set_cons_succ]))
                            (refine wpAnyH_take (i := 7) (v := undef) (by simp only [List.getElem?_toArray, List.getElem?_cons_succ, List.getElem?_cons_zero]; rfl) (by kernel_rfl) (by kernel_rfl) (by kernel_rfl) (fun _ _ _ h => False.elim h) (Or.inr ⟨by rfl, rfl⟩) (by assumption) ?rest7s327; (try simp only [Act.put, List.setIfInBounds_toArray, List.set_cons_zero, List.set_cons_succ]))
                            (refine wpAnyH_take (i := 8) (v := undef) (by simp only [List.getElem?_toArray, List.getElem?_cons_succ, List.getElem?_cons_zero]; rfl) (by kernel_rfl) (by kernel_rfl) (by kernel_rfl) (fun _ _ _ h => False.elim h) (Or.inr ⟨by rfl, rfl⟩) (by assumption) ?rest8s328; (try simp only [Act.put, List.setIfInBounds_toArray, List.set_cons_zero, List.set_cons_succ]))
                            (refine wpAnyH_take (i := 9) (v := undef) (by simp only [List.getElem?_toArray, List.getElem?_cons_succ, List.getElem?_cons_zero]; rfl) (by kernel_rfl) (by kernel_rfl) (by kernel_rfl) (fun _ _ _ h => False.elim h) (Or.inr ⟨by rfl, rfl⟩) (by assumption) ?rest9s329; (try simp only [Act.put, List.setIfInBounds_toArray, List.set_cons_zero, List.set_cons_succ]))
                            (refine wpAnyH_take (i := 10) (v := undef) (by simp only [List.getElem?_toArray, List.getElem?_cons_succ, List.getElem?_cons_zero]; rfl) (by kernel_rfl) (by kernel_rfl) (by kernel_rfl) (fun _ _ _ h => False.elim h) (Or.inr ⟨by rfl, rfl⟩) (by assumption) ?rest10s330; (try simp only [Act.put, List.setIfInBounds_toArray, List.set_cons_zero, List.set_cons_succ]))
                            (refine wpAnyH_take (i := 11) (v := undef) (by simp only [List.getElem?_toArray, List.getElem?_cons_succ, List.getElem?_cons_zero]; rfl) (by kernel_rfl) (by kernel_rfl) (by kernel_rfl) (fun _ _ _ h => False.elim h) (Or.inr ⟨by rfl, rfl⟩) (by assumption) ?rest11s331; (try simp only [Act.put, List.setIfInBounds_toArray, List.set_cons_zero, List.set_cons_succ]))
                            (refine wpAnyH_take (i := 12) (v := ?v12n73) (by simp only [List.getElem?_toArray, List.getElem?_cons_succ, List.getElem?_cons_zero]; rfl) (by kernel_rfl) (by kernel_rfl) (by kernel_rfl) (fun _ _ _ h => False.elim h) (Or.inl ⟨by rfl, ?hy12n73⟩) (by assumption) ?rest12n73; (case hy12n73 => (intro w hSw; (try dsimp only at hSw); go_simp; (try with_reducible rfl))); (try simp only [Act.put, List.setIfInBounds_toArray, List.set_cons_zero, List.set_cons_succ]))
                            (refine wpAnyH_take (i := 13) (v := ?v13n74) (by simp only [List.getElem?_toArray, List.getElem?_cons_succ, List.getElem?_cons_zero]; rfl) (by kernel_rfl) (by kernel_rfl) (by kernel_rfl) (fun _ _ _ h => False.elim h) (Or.inl ⟨by rfl, ?hy13n74⟩) (by assumption) ?rest13n74; (case hy13n74 => (intro w hSw; (try dsimp only at hSw); go_simp; (try with_reducible rfl))); (try simp only [Act.put, List.setIfInBounds_toArray, List.set_cons_zero, List.set_cons_succ]))
                            refine wpAnyH_done (by kernel_rfl) ?_ _
                            refine NoPanic.normal ?_
                            clear hHeld
                            have n2 : Below W7.heap.size W7 w8.drew.drew := n1.drew
                            clear n1
                            go_wp2_with fail
                            refine wp_region_noPanic ?_
                            refine wp_region_held_drew (S := fun _ => True) (by kernel_rfl) (trivial) (fun hHeld => ?_)
                            (refine wpAnyH_take (i := 0) (v := ?v0n75) (by simp only [List.getElem?_toArray, List.getElem?_cons_succ, List.getElem?_cons_zero]; rfl) (by kernel_rfl) (by kernel_rfl) (by kernel_rfl) (fun _ _ _ h => False.elim h) (Or.inl ⟨by rfl, ?hy0n75⟩) (by assumption) ?rest0n75; (case hy0n75 => (intro w hSw; (try dsimp only at hSw); go_simp; (try with_reducible rfl))); (try simp only [Act.put, List.setIfInBounds_toArray, List.set_cons_zero, List.set_cons_succ]))
                            (refine wpAnyH_take (i := 1) (v := ?v1n76) (by simp only [List.getElem?_toArray, List.getElem?_cons_succ, List.getElem?_cons_zero]; rfl) (by kernel_rfl) (by kernel_rfl) (by kernel_rfl) (fun _ _ _ h => False.elim h) (Or.inl ⟨by rfl, ?hy1n76⟩) (by assumption) ?rest1n76; (case hy1n76 => (intro w hSw; (try dsimp only at hSw); go_simp; (try with_reducible rfl))); (try simp only [Act.put, List.setIfInBounds_toArray, List.set_cons_zero, List.set_cons_succ]))
                            (refine wpAnyH_take (i := 2) (v := ?v2n77) (by simp only [List.getElem?_toArray, List.getElem?_cons_succ, List.getElem?_cons_zero]; rfl) (by kernel_rfl) (by kernel_rfl) (by kernel_rfl) (fun _ _ _ h => False.elim h) (Or.inl ⟨by rfl, ?hy2n77⟩) (by assumption) ?rest2n77; (case hy2n77 => (intro w hSw; (try dsimp only at hSw); go_simp; (try with_reducible rfl))); (try simp only [Act.put, List.setIfInBounds_toArray, List.set_cons_zero, List.set_cons_succ]))
                            (refine wpAnyH_take (i := 3) (v := ?v3n78) (by simp only [List.getElem?_toArray, List.getElem?_cons_succ, List.getElem?_cons_zero]; rfl) (by kernel_rfl) (by kernel_rfl) (by kernel_rfl) (fun _ _ _ h => False.elim h) (Or.inl ⟨by rfl, ?hy3n78⟩) (by assumption) ?rest3n78; (case hy3n78 => (intro w hSw; (try dsimp only at hSw); go_simp; (try with_reducible rfl))); (try simp only [Act.put, List.setIfInBounds_toArray, List.set_cons_zero, List.set_cons_succ]))
                            (refine wpAnyH_take (i := 4) (v := ?v4n79) (by simp only [List.getElem?_toArray, List.getElem?_cons_succ, List.getElem?_cons_zero]; rfl) (by kernel_rfl) (by kernel_rfl) (by kernel_rfl) (fun _ _ _ h => False.elim h) (Or.inl ⟨by rfl, ?hy4n79⟩) (by assumption) ?rest4n79; (case hy4n79 => (intro w hSw; (try dsimp only at hSw); go_simp; (try with_reducible rfl))); (try simp only [Act.put, List.setIfInBounds_toArray, List.set_cons_zero, List.set_cons_succ]))
                            (refine wpAnyH_take (i := 5) (v := ?v5n80) (by simp only [List.getElem?_toArray, List.getElem?_cons_succ, List.getElem?_cons_zero]; rfl) (by kernel_rfl) (by kernel_rfl) (by kernel_rfl) (fun _ _ _ h => False.elim h) (Or.inl ⟨by rfl, ?hy5n80⟩) (by assumption) ?rest5n80; (case hy5n80 => (intro w hSw; (try dsimp only at hSw); go_simp; (try with_reducible rfl))); (try simp only [Act.put, List.setIfInBounds_toArray, List.set_cons_zero, List.set_cons_succ]))
                            (refine wpAnyH_take (i := 6) (v := ?v6n81) (by simp only [List.getElem?_toArray, List.getElem?_cons_succ, List.getElem?_cons_zero]; rfl) (by kernel_rfl) (by kernel_rfl) (by kernel_rfl) (fun _ _ _ h => False.elim h) (Or.inl ⟨by rfl, ?hy6n81⟩) (by assumption) ?rest6n81; (case hy6n81 => (intro w hSw; (try dsimp only at hSw); go_simp; (try with_reducible rfl))); (try simp only [Act.put, List.setIfInBounds_toArray, List.set_cons_zero, List.set_cons_succ]))
                            (refine wpAnyH_take (i := 7) (v := undef) (by simp only [List.getElem?_toArray, List.getElem?_cons_succ, List.getElem?_cons_zero]; rfl) (by kernel_rfl) (by kernel_rfl) (by kernel_rfl) (fun _ _ _ h => False.elim h) (Or.inr ⟨by rfl, rfl⟩) (by assumption) ?rest7s332; (try simp only [Act.put, List.setIfInBounds_toArray, List.set_cons_zero, List.set_cons_succ]))
                            (refine wpAnyH_take (i := 8) (v := undef) (by simp only [List.getElem?_toArray, List.getElem?_cons_succ, List.getElem?_cons_zero]; rfl) (by kernel_rfl) (by kernel_rfl) (by kernel_rfl) (fun _ _ _ h => False.elim h) (Or.inr ⟨by rfl, rfl⟩) (by assumption) ?rest8s333; (try simp only [Act.put, List.setIfInBounds_toArray, List.set_cons_zero, List.set_cons_succ]))
                            (refine wpAnyH_take (i := 9) (v := undef) (by simp only [List.getElem?_toArray, List.getElem?_cons_succ, List.getElem?_cons_zero]; rfl) (by kernel_rfl) (by kernel_rfl) (by kernel_rfl) (fun _ _ _ h => False.elim h) (Or.inr ⟨by rfl, rfl⟩) (by assumption) ?rest9s334; (try simp only [Act.put, List.setIfInBounds_toArray, List.set_cons_zero, List.set_cons_succ]))
                            (refine wpAnyH_take (i := 10) (v := undef) (by simp only [List.getElem?_toArray, List.getElem?_cons_succ, List.getElem?_cons_zero]; rfl) (by kernel_rfl) (by kernel_rfl) (by kernel_rfl) (fun _ _ _ h => False.elim h) (Or.inr ⟨by rfl, rfl⟩) (by assumption) ?rest10s335; (try simp only [Act.put, List.setIfInBounds_toArray, List.set_cons_zero, List.set_cons_succ]))
                            (refine wpAnyH_take (i := 11) (v := undef) (by simp only [List.getElem?_toArray, List.getElem?_cons_succ, List.getElem?_cons_zero]; rfl) (by kernel_rfl) (by kernel_rfl) (by kernel_rfl) (fun _ _ _ h => False.elim h) (Or.inr ⟨by rfl, rfl⟩) (by assumption) ?rest11s336; (try simp only [Act.put, List.setIfInBounds_toArray, List.set_cons_zero, List.set_cons_succ]))
                            (refine wpAnyH_take (i := 12) (v := undef) (by simp only [List.getElem?_toArray, List.getElem?_cons_succ, List.getElem?_cons_zero]; rfl) (by kernel_rfl) (by kernel_rfl) (by kernel_rfl) (fun _ _ _ h => False.elim h) (Or.inr ⟨by rfl, rfl⟩) (by assumption) ?rest12s337; (try simp only [Act.put, List.setIfInBounds_toArray, List.set_cons_zero, List.set_cons_succ]))
                            (refine wpAnyH_take (i := 13) (v := undef) (by simp only [List.getElem?_toArray, List.getElem?_cons_succ, List.getElem?_cons_zero]; rfl) (by kernel_rfl) (by kernel_rfl) (by kernel_rfl) (fun _ _ _ h => False.elim h) (Or.inr ⟨by rfl, rfl⟩) (by assumption) ?rest13s338; (try simp only [Act.put, List.setIfInBounds_toArray, List.set_cons_zero, List.set_cons_succ]))
                            (refine wpAnyH_take (i := 14) (v := undef) (by simp only [List.getElem?_toArray, List.getElem?_cons_succ, List.getElem?_cons_zero]; rfl) (by kernel_rfl) (by kernel_rfl) (by kernel_rfl) (fun _ _ _ h => False.elim h) (Or.inr ⟨by rfl, rfl⟩) (by assumption) ?rest14s339; (try simp only [Act.put, List.setIfInBounds_toArray, List.set_cons_zero, List.set_cons_succ]))
                            (refine wpAnyH_take (i := 15) (v := undef) (by simp only [List.getElem?_toArray, List.getElem?_cons_succ, List.getElem?_cons_zero]; rfl) (by kernel_rfl) (by kernel_rfl) (by kernel_rfl) (fun _ _ _ h => False.elim h) (Or.inr ⟨by rfl, rfl⟩) (by assumption) ?rest15s340; (try simp only [Act.put, List.setIfInBounds_toArray, List.set_cons_zero, List.set_cons_succ]))
                            (refine wpAnyH_take (i := 16) (v := undef) (by simp only [List.getElem?_toArray, List.getElem?_cons_succ, List.getElem?_cons_zero]; rfl) (by kernel_rfl) (by kernel_rfl) (by kernel_rfl) (fun _ _ _ h => False.elim h) (Or.inr ⟨by rfl, rfl⟩) (by assumption) ?rest16s341; (try simp only [Act.put, List.setIfInBounds_toArray, List.set_cons_zero, List.set_cons_succ]))
                            (refine wpAnyH_take (i := 17) (v := ?v17n82) (by simp only [List.getElem?_toArray, List.getElem?_cons_succ, List.getElem?_cons_zero]; rfl) (by kernel_rfl) (by kernel_rfl) (by kernel_rfl) (fun _ _ _ h => False.elim h) (Or.inl ⟨by rfl, ?hy17n82⟩) (by assumption) ?rest17n82; (case hy17n82 => (intro w hSw; (try dsimp only at hSw); go_simp; (try with_reducible rfl))); (try simp only [Act.put, List.setIfInBounds_toArray, List.set_cons_zero, List.set_cons_succ]))
                            (refine wpAnyH_take (i := 18) (v := ?v18n83) (by simp only [List.getElem?_toArray, List.getElem?_cons_succ, List.getElem?_cons_zero]; rfl) (by kernel_rfl) (by kernel_rfl) (by kernel_rfl) (fun _ _ _ h => False.elim h) (Or.inl ⟨by rfl, ?hy18n83⟩) (by assumption) ?rest18n83; (case hy18n83 => (intro w hSw; (try dsimp only at hSw); go_simp; (try with_reducible rfl))); (try simp only [Act.put, List.setIfInBounds_toArray, List.set_cons_zero, List.set_cons_succ]))
                            (refine wpAnyH_take (i := 19) (v := ?v19n84) (by simp only [List.getElem?_toArray, List.getElem?_cons_succ, List.getElem?_cons_zero]; rfl) (by kernel_rfl) (by kernel_rfl) (by kernel_rfl) (fun _ _ _ h => False.elim h) (Or.inl ⟨by rfl, ?hy19n84⟩) (by assumption) ?rest19n84; (case hy19n84 => (intro w hSw; (try dsimp only at hSw); go_simp; (try with_reducible rfl))); (try simp only [Act.put, List.setIfInBounds_toArray, List.set_cons_zero, List.set_cons_succ]))
                            (refine wpAnyH_take (i := 20) (v := ?v20n85) (by simp only [List.getElem?_toArray, List.getElem?_cons_succ, List.getElem?_cons_zero]; rfl) (by kernel_rfl) (by kernel_rfl) (by kernel_rfl) (fun _ _ _ h => False.elim h) (Or.inl ⟨by rfl, ?hy20n85⟩) (by assumption) ?rest20n85; (case hy20n85 => (intro w hSw; (try dsimp only at hSw); go_simp; (try with_reducible rfl))); (try simp only [Act.put, List.setIfInBounds_toArray, List.set_cons_zero, List.set_cons_succ]))
                            (refine wpAnyH_take (i := 21) (v := ?v21n86) (by simp only [List.getElem?_toArray, List.getElem?_cons_succ, List.getElem?_cons_zero]; rfl) (by kernel_rfl) (by kernel_rfl) (by kernel_rfl) (fun _ _ _ h => False.elim h) (Or.inl ⟨by rfl, ?hy21n86⟩) (by assumption) ?rest21n86; (case hy21n86 => (intro w hSw; (try dsimp only at hSw); go_simp; (try with_reducible rfl))); (try simp only [Act.put, List.setIfInBounds_toArray, List.set_cons_zero, List.set_cons_succ]))
                            (refine wpAnyH_take (i := 22) (v := ?v22n87) (by simp only [List.getElem?_toArray, List.getElem?_cons_succ, List.getElem?_cons_zero]; rfl) (by kernel_rfl) (by kernel_rfl) (by kernel_rfl) (fun _ _ _ h => False.elim h) (Or.inl ⟨by rfl, ?hy22n87⟩) (by assumption) ?rest22n87; (case hy22n87 => (intro w hSw; (try dsimp only at hSw); go_simp; (try with_reducible rfl))); (try simp only [Act.put, List.setIfInBounds_toArray, List.set_cons_zero, List.set_cons_succ]))
                            (refine wpAnyH_ready (rs := [23]) (by kernel_rfl) (by simp) ?_; refine AllReadyH.cons (o := _) (by simp only [List.getElem?_toArray, List.getElem?_cons_succ, List.getElem?_cons_zero]; rfl) (fun K hK => ?_) AllReadyH.nil; go_simp; ((with_reducible refine (HNm.out _ n2).mono ?_); rintro e w9 ⟨rfl, hP9⟩); refine hK.out _ _ (by trivial) (fun hHeld => ?_); clear hK K; (try simp only [Act.put, List.setIfInBounds_toArray, List.set_cons_zero, List.set_cons_succ]))
                            (refine wpAnyH_take (i := 24) (v := ?v24n88) (by simp only [List.getElem?_toArray, List.getElem?_cons_succ, List.getElem?_cons_zero]; rfl) (by kernel_rfl) (by kernel_rfl) (by kernel_rfl) (fun _ _ _ h => False.elim h) (Or.inl ⟨by rfl, ?hy24n88⟩) (by assumption) ?rest24n88; (case hy24n88 => (intro w hSw; (try dsimp only at hSw); go_simp; (try with_reducible rfl))); (try simp only [Act.put, List.setIfInBounds_toArray, List.set_cons_zero, List.set_cons_succ]))
                            (refine wpAnyH_take (i := 25) (v := ?v25n89) (by simp only [List.getElem?_toArray, List.getElem?_cons_succ, List.getElem?_cons_zero]; rfl) (by kernel_rfl) (by kernel_rfl) (by kernel_rfl) (fun _ _ _ h => False.elim h) (Or.inl ⟨by rfl, ?hy25n89⟩) (by assumption) ?rest25n89; (case hy25n89 => (intro w hSw; (try dsimp only at hSw); go_simp; (try with_reducible rfl))); (try simp only [Act.put, List.setIfInBounds_toArray, List.set_cons_zero, List.set_cons_succ]))
                            (refine wpAnyH_take (i := 26) (v := ?v26n90) (by simp only [List.getElem?_toArray, List.getElem?_cons_succ, List.getElem?_cons_zero]; rfl) (by kernel_rfl) (by kernel_rfl) (by kernel_rfl) (fun _ _ _ h => False.elim h) (Or.inl ⟨by rfl, ?hy26n90⟩) (by assumption) ?rest26n90; (case hy26n90 => (intro w hSw; (try dsimp only at hSw); go_simp; (try with_reducible rfl))); (try simp only [Act.put, List.setIfInBounds_toArray, List.set_cons_zero, List.set_cons_succ]))
                            (refine wpAnyH_take (i := 27) (v := ?v27n91) (by simp only [List.getElem?_toArray, List.getElem?_cons_succ, List.getElem?_cons_zero]; rfl) (by kernel_rfl) (by kernel_rfl) (by kernel_rfl) (fun _ _ _ h => False.elim h) (Or.inl ⟨by rfl, ?hy27n91⟩) (by assumption) ?rest27n91; (case hy27n91 => (intro w hSw; (try dsimp only at hSw); go_simp; (try with_reducible rfl))); (try simp only [Act.put, List.setIfInBounds_toArray, List.set_cons_zero, List.set_cons_succ]))
                            (refine wpAnyH_take (i := 28) (v := ?v28n92) (by simp only [List.getElem?_toArray, List.getElem?_cons_succ, List.getElem?_cons_zero]; rfl) (by kernel_rfl) (by kernel_rfl) (by kernel_rfl) (fun _ _ _ h => False.elim h) (Or.inl ⟨by rfl, ?hy28n92⟩) (by assumption) ?rest28n92; (case hy28n92 => (intro w hSw; (try dsimp only at hSw); go_simp; (try with_reducible rfl))); (try simp only [Act.put, List.setIfInBounds_toArray, List.set_cons_zero, List.set_cons_succ]))
                            refine wpAnyH_done (by kernel_rfl) ?_ _
                            refine NoPanic.normal ?_
                            clear hHeld
                            have X8 := hP9
                            clear n2 hP9 HSk HPb HNm
                            have HX8 := Lib.hid X8
                            clear X8
                            go_wp2_with fail
                            go_meet
                            case rel => first | exact ⟨by first | rfl | simp, cx, HX8.out, rfl, by have := HCm.out; omega⟩ | ((repeat apply Exists.intro); refine ⟨?r, ?f⟩; (case f => (and_intros <;> rfl)); exact ⟨by first | rfl | simp, cx, HX8.out, rfl, by have := HCm.out; omega⟩)
                    · as_aux_lemma =>
                        have hk0 : (kd == 0) = false := by simpa using h0
                        have hk1 : (kd == 1) = false := by simpa using h1
                        have hk2 : (kd == 2) = false := by simpa using h2
                        have hb7 := HP7.out.tw
                        have hpc := HP7.out.chain (fun K hT => hT.clear E HSz'.out (by have := HCm.out; omega))
                        have hpm := fun W {a} (h : Pc wz W p x y v u sb wr.heap.size (.cells #[.int .i64 kd, .int .i64 nn, .slice aa mm cp, .bool false] 72 (0, 0)) a cy cx cy A C B S nv) => h.rdrop (cx.all.length : Int) (by have := HNum.out.2.2.1; omega) (by have := HNum.out.2.2.2.1; omega) hb7.fs (by have := HCm.out; omega) hb7.cw
                        rw [if_pos ⟨by omega, by omega⟩, if_pos ⟨by omega, by omega⟩, Int.toNat_natCast] at hpm
                        have hml := fun W {a} (h : Pc wz W p x y v u sb wr.heap.size (.cells #[.int .i64 kd, .int .i64 nn, .slice aa mm cp, .bool false] 72 (0, 0)) a cy cx cy A C B S nv) => h.mdl.elim (fun _ hv => hv.cells)
                        obtain ⟨L, hL⟩ : ∃ L, cx.all.length = L := ⟨_, rfl⟩
                        rw [hL] at hpc hpm hml
                        have HPc := Lib.hid hpc
                        have HPm := Lib.hid hpm
                        have HMl := Lib.hid hml
                        clear hpc hpm hml hb7 hL
                        go_wp2_with fail
                        with_reducible refine HPc.out.mono ?_
                        rintro e w8 ⟨rfl, hP8⟩
                        obtain ⟨amo, cmo, _, _, _, _, m2, _⟩ := HMl.out w8 hP8
                        have X0 := hP8.below (Below.refl w8.heap.size w8).drew
                        obtain ⟨s0, s1, s2, _, _, _⟩ := HKk.out _ nv X0
                        have m2d : w8.drew.cell? ⟨v, 2, none⟩ = some (.slice amo L cmo) := m2
                        have HPm8 := Lib.hid (HPm.out _ X0)
                        clear hP8 HPc HMl HPm a0 a1 a2 m2
                        go_wp2_with fail
                        go_region_with (go_at_call 42; (with_reducible refine HPm8.out.mono ?_); rintro e w9 ⟨rfl, X9⟩)
                        all_goals
                          have HX9 := Lib.hid X9
                          clear X9 X0 HPm8 s0 s1 s2 m2d
                          go_wp2
                          go_meet
                          case rel => first | exact ⟨rfl, drp S cx L, HX9.out, rfl, by simp only [drp]; have := HCm.out; omega⟩ | ((repeat apply Exists.intro); (refine ⟨?_, ?_⟩); rotate_left 1; (focus (and_intros <;> rfl)); exact ⟨rfl, drp S cx L, HX9.out, rfl, by simp only [drp]; have := HCm.out; omega⟩)
              case rest =>
                as_aux_lemma =>
                  obtain ⟨rfl, c2, hP, hac, hcm2⟩ := hcut
                  have hcn := hP.tw.counts
                  have hPb := fun W hb => Pc.below (W' := W) hP hb
                  have HP := Lib.hid hP
                  have HCn := Lib.hid hcn
                  have HPb0 := Lib.hid hPb
                  clear hP hcn hPb HP7 HW7 HKk HQ3 HW5 HP
                  go_wp2_with fail
                  with_reducible refine HCn.out.mono ?_
                  rintro e wR0 ⟨rfl, hbR⟩
                  have hPR := HPb0.out _ hbR
                  clear hbR HPb0 HCn
                  go_upto_region 36 with (fail)
                  go_cut [227] (fun gg W => gg = .bool false ∧ Pc wz W p x y v u sb wr.heap.size (.cells #[.int .i64 kd, .int .i64 nn, .slice aa mm cp, .bool false] 72 (0, 0)) c2 cy c2 cy A C B S nv)
                  case first =>
                    as_aux_lemma =>
                      have hcw := hPR.tw.cw
                      obtain ⟨Kv, hv⟩ := hPR.mdl
                      obtain ⟨amo, cmo, hrm, _, _, _, m2, m3, m4, _⟩ := hv.cells
                      have hS : ∀ W, Below wR0.heap.size wR0 W → (W.cell? ⟨v, 2, none⟩ = some (.slice amo c2.all.length cmo) ∧ W.cell? ⟨v, 3, none⟩ = some (.int .i64 (c2.came : Int)) ∧ W.cell? ⟨v, 4, none⟩ = some (.int .i64 (c2.went : Int))) ∧ (W.cell? ⟨sb, 0, none⟩ = some (.int .i64 (B : Int)) ∧ W.cell? ⟨sb, 1, none⟩ = some (.int .i64 (S : Int)) ∧ W.cell? ⟨sb, 2, none⟩ = some (.int .i64 (nv : Int))) ∧ (convert 54 9 (.slice amo c2.all.length cmo)).run Tryd.prog W = .ok (.string (Str c2.all)) W := fun W hb => by
                        have hs := (hPR.below hb).sk
                        exact ⟨⟨(hb.cell (lt_of_cell m2)).trans m2, (hb.cell (lt_of_cell m3)).trans m3, (hb.cell (lt_of_cell m4)).trans m4⟩, ⟨cell_block hs 0, cell_block hs 1, cell_block hs 2⟩, str_run (P := Tryd.prog) (dst := 9) Tryd.underlying54 Tryd.underlying5 Tryd.underlying9 (hrm.keep hb) cmo 0⟩
                      have hcvt : ∀ W ab capb, Rd W ab (u8s c2.all) → (convert 54 9 (.slice ab c2.all.length capb)).run Tryd.prog W = .ok (.string (Str c2.all)) W := fun W ab capb hrb => str_run (P := Tryd.prog) (dst := 9) Tryd.underlying54 Tryd.underlying5 Tryd.underlying9 hrb capb 0
                      have hby : ∀ W, Below wR0.heap.size wR0 W → Calls Tryd.prog 39 #[.pointer (some ⟨x, 0, none⟩)] W fun e w' => ∃ a cap, e = .returned (.slice a c2.all.length cap) ∧ Rd w' a (u8s c2.all) ∧ Below wR0.heap.size wR0 w' := fun W hb => ((hPR.below hb).tw.bytes E HSz'.out (by have := HCm.out; omega)).mono fun _ _ ⟨a, cap, h1, h2, _, h3⟩ => ⟨a, cap, h1, h2, hb.trans (h3.mono hb.size)⟩
                      have hln := fun W (hb : Below wR0.heap.size wR0 W) => (hPR.below hb).tw.len
                      have hbu := fun W (hb : Below wR0.heap.size wR0 W) => (hPR.below hb).tw.buffers
                      have hfs := hPR.tw.fs
                      have hrh : ∀ W, Below wR0.heap.size wR0 W → Calls Tryd.prog 40 #[.pointer (some ⟨v, 0, none⟩), .agg #[.int .i64 (B : Int), .int .i64 (S : Int), .int .i64 (nv : Int)]] W fun e w' => e = .returned (.int .i64 (need S c2.frm c2.all.length : Int)) ∧ Below wR0.heap.size wR0 w' := fun W hb => (rheld_c B S nv (hv.below hb) (by have := HNum.out.2.2.1; omega) (by have := HNum.out.2.2.2.1; have := HCm.out; omega) (by have := HNum.out.2.2.2.1; omega)).mono fun _ _ ⟨h1, h2⟩ => ⟨h1, hb.trans (h2.mono hb.size)⟩
                      have hpb := fun W (hb : Below wR0.heap.size wR0 W) => hPR.below hb
                      have n0 : Below wR0.heap.size wR0 wR0.drew := (Below.refl _ _).drew
                      obtain ⟨L, hL⟩ : ∃ L, c2.all.length = L := ⟨_, rfl⟩
                      rw [hL] at hS hcvt hby hln
                      have HS := Lib.hid hS
                      have HCv := Lib.hid hcvt
                      have HBy := Lib.hid hby
                      have HLn2 := Lib.hid hln
                      have HBu := Lib.hid hbu
                      have HRh := Lib.hid hrh
                      have HPb := Lib.hid hpb
                      clear hS hcvt hby hln hbu hrh hpb hfs hL hcw hv hrm m2 m3 m4 hPR
                      go_wp2_with fail
                      refine wp_region_noPanic ?_
                      refine wp_region_held_drew (S := fun W => (W.cell? ⟨v, 2, none⟩ = some (.slice amo L cmo) ∧ W.cell? ⟨v, 3, none⟩ = some (.int .i64 (c2.came : Int)) ∧ W.cell? ⟨v, 4, none⟩ = some (.int .i64 (c2.went : Int))) ∧ (W.cell? ⟨sb, 0, none⟩ = some (.int .i64 (B : Int)) ∧ W.cell? ⟨sb, 1, none⟩ = some (.int .i64 (S : Int)) ∧ W.cell? ⟨sb, 2, none⟩ = some (.int .i64 (nv : Int))) ∧ (convert 54 9 (.slice amo L cmo)).run Tryd.prog W = .ok (.string (Str c2.all)) W) (by kernel_rfl) (HS.out _ n0) (fun hHeld => ?_)
                      (refine wpAnyH_take (i := 0) (v := ?v0n93) (by simp only [List.getElem?_toArray, List.getElem?_cons_succ, List.getElem?_cons_zero]; rfl) (by kernel_rfl) (by kernel_rfl) (by kernel_rfl) (fun _ _ _ h => False.elim h) (Or.inl ⟨by rfl, ?hy0n93⟩) (by assumption) ?rest0n93; (case hy0n93 => (intro w hSw; (try dsimp only at hSw); go_simp; (try with_reducible rfl))); (try simp only [Act.put, List.setIfInBounds_toArray, List.set_cons_zero, List.set_cons_succ]))
                      (refine wpAnyH_take (i := 1) (v := ?v1n94) (by simp only [List.getElem?_toArray, List.getElem?_cons_succ, List.getElem?_cons_zero]; rfl) (by kernel_rfl) (by kernel_rfl) (by kernel_rfl) (fun _ _ _ h => False.elim h) (Or.inl ⟨by rfl, ?hy1n94⟩) (by assumption) ?rest1n94; (case hy1n94 => (intro w hSw; (try dsimp only at hSw); go_simp; (try with_reducible rfl))); (try simp only [Act.put, List.setIfInBounds_toArray, List.set_cons_zero, List.set_cons_succ]))
                      (refine wpAnyH_take (i := 2) (v := ?v2n95) (by simp only [List.getElem?_toArray, List.getElem?_cons_succ, List.getElem?_cons_zero]; rfl) (by kernel_rfl) (by kernel_rfl) (by kernel_rfl) (fun _ _ _ h => False.elim h) (Or.inl ⟨by rfl, ?hy2n95⟩) (by assumption) ?rest2n95; (case hy2n95 => (intro w hSw; (try dsimp only at hSw); go_simp; (try with_reducible rfl))); (try simp only [Act.put, List.setIfInBounds_toArray, List.set_cons_zero, List.set_cons_succ]))
                      (refine wpAnyH_take (i := 3) (v := ?v3n96) (by simp only [List.getElem?_toArray, List.getElem?_cons_succ, List.getElem?_cons_zero]; rfl) (by kernel_rfl) (by kernel_rfl) (by kernel_rfl) (fun _ _ _ h => False.elim h) (Or.inl ⟨by rfl, ?hy3n96⟩) (by assumption) ?rest3n96; (case hy3n96 => (intro w hSw; (try dsimp only at hSw); go_simp; (try with_reducible rfl))); (try simp only [Act.put, List.setIfInBounds_toArray, List.set_cons_zero, List.set_cons_succ]))
                      (refine wpAnyH_take (i := 6) (v := ?v6n97) (by simp only [List.getElem?_toArray, List.getElem?_cons_succ, List.getElem?_cons_zero]; rfl) (by kernel_rfl) (by kernel_rfl) (by kernel_rfl) (fun _ _ _ h => False.elim h) (Or.inl ⟨by rfl, ?hy6n97⟩) (by assumption) ?rest6n97; (case hy6n97 => (intro w hSw; (try dsimp only at hSw); go_simp; (try with_reducible rfl))); (try simp only [Act.put, List.setIfInBounds_toArray, List.set_cons_zero, List.set_cons_succ]))
                      (refine wpAnyH_take (i := 7) (v := ?v7n98) (by simp only [List.getElem?_toArray, List.getElem?_cons_succ, List.getElem?_cons_zero]; rfl) (by kernel_rfl) (by kernel_rfl) (by kernel_rfl) (fun _ _ _ h => False.elim h) (Or.inl ⟨by rfl, ?hy7n98⟩) (by assumption) ?rest7n98; (case hy7n98 => (intro w hSw; (try dsimp only at hSw); go_simp; (try with_reducible rfl))); (try simp only [Act.put, List.setIfInBounds_toArray, List.set_cons_zero, List.set_cons_succ]))
                      (refine wpAnyH_take (i := 8) (v := ?v8n99) (by simp only [List.getElem?_toArray, List.getElem?_cons_succ, List.getElem?_cons_zero]; rfl) (by kernel_rfl) (by kernel_rfl) (by kernel_rfl) (fun _ _ _ h => False.elim h) (Or.inl ⟨by rfl, ?hy8n99⟩) (by assumption) ?rest8n99; (case hy8n99 => (intro w hSw; (try dsimp only at hSw); go_simp; (try with_reducible rfl))); (try simp only [Act.put, List.setIfInBounds_toArray, List.set_cons_zero, List.set_cons_succ]))
                      (refine wpAnyH_take (i := 9) (v := ?v9n100) (by simp only [List.getElem?_toArray, List.getElem?_cons_succ, List.getElem?_cons_zero]; rfl) (by kernel_rfl) (by kernel_rfl) (by kernel_rfl) (fun _ _ _ h => False.elim h) (Or.inl ⟨by rfl, ?hy9n100⟩) (by assumption) ?rest9n100; (case hy9n100 => (intro w hSw; (try dsimp only at hSw); go_simp; (try with_reducible rfl))); (try simp only [Act.put, List.setIfInBounds_toArray, List.set_cons_zero, List.set_cons_succ]))
                      (refine wpAnyH_take (i := 10) (v := ?v10n101) (by simp only [List.getElem?_toArray, List.getElem?_cons_succ, List.getElem?_cons_zero]; rfl) (by kernel_rfl) (by kernel_rfl) (by kernel_rfl) (fun _ _ _ h => False.elim h) (Or.inl ⟨by rfl, ?hy10n101⟩) (by assumption) ?rest10n101; (case hy10n101 => (intro w hSw; (try dsimp only at hSw); go_simp; (try with_reducible rfl))); (try simp only [Act.put, List.setIfInBounds_toArray, List.set_cons_zero, List.set_cons_succ]))
                      (refine wpAnyH_ready (rs := [4]) (by kernel_rfl) (by simp) ?_; refine AllReadyH.cons (o := _) (by simp only [List.getElem?_toArray, List.getElem?_cons_succ, List.getElem?_cons_zero]; rfl) (fun K hK => ?_) AllReadyH.nil; go_simp; ((with_reducible refine (HBy.out _ n0).mono ?_); rintro e w9 ⟨ab, capb, rfl, hrb, n2⟩; have hcv : (convert 54 9 (.slice ab (L) capb)).run Tryd.prog w9 = .ok (.string (Str c2.all)) w9 := HCv.out w9 ab capb hrb; clear hrb); refine hK.out _ _ (by exact HS.out _ n2) (fun hHeld => ?_); clear hK K; (try simp only [Act.put, List.setIfInBounds_toArray, List.set_cons_zero, List.set_cons_succ]))
                      (refine wpAnyH_ready (rs := [5]) (by kernel_rfl) (by simp) ?_; refine AllReadyH.cons (o := _) (by simp only [List.getElem?_toArray, List.getElem?_cons_succ, List.getElem?_cons_zero]; rfl) (fun K hK => ?_) AllReadyH.nil; go_simp; (skip); refine hK.out _ _ (by exact HS.out _ n2) (fun hHeld => ?_); clear hK K; (try simp only [Act.put, List.setIfInBounds_toArray, List.set_cons_zero, List.set_cons_succ]))
                      (refine wpAnyH_take (i := 11) (v := ?v11n102) (by simp only [List.getElem?_toArray, List.getElem?_cons_succ, List.getElem?_cons_zero]; rfl) (by kernel_rfl) (by kernel_rfl) (by kernel_rfl) (fun _ _ _ h => False.elim h) (Or.inl ⟨by rfl, ?hy11n102⟩) (by assumption) ?rest11n102; (case hy11n102 => (intro w hSw; (try dsimp only at hSw); go_simp; (try with_reducible rfl))); (try simp only [Act.put, List.setIfInBounds_toArray, List.set_cons_zero, List.set_cons_succ]))
                      (refine wpAnyH_take (i := 12) (v := ?v12n103) (by simp only [List.getElem?_toArray, List.getElem?_cons_succ, List.getElem?_cons_zero]; rfl) (by kernel_rfl) (by kernel_rfl) (by kernel_rfl) (fun _ _ _ h => False.elim h) (Or.inl ⟨by rfl, ?hy12n103⟩) (by assumption) ?rest12n103; (case hy12n103 => (intro w hSw; (try dsimp only at hSw); go_simp; (try with_reducible rfl))); (try simp only [Act.put, List.setIfInBounds_toArray, List.set_cons_zero, List.set_cons_succ]))
                      (refine wpAnyH_take (i := 13) (v := ?v13n104) (by simp only [List.getElem?_toArray, List.getElem?_cons_succ, List.getElem?_cons_zero]; rfl) (by kernel_rfl) (by kernel_rfl) (by kernel_rfl) (fun _ _ _ h => False.elim h) (Or.inl ⟨by rfl, ?hy13n104⟩) (by assumption) ?rest13n104; (case hy13n104 => (intro w hSw; (try dsimp only at hSw); go_simp; (try with_reducible rfl))); (try simp only [Act.put, List.setIfInBounds_toArray, List.set_cons_zero, List.set_cons_succ]))
                      (refine wpAnyH_take (i := 14) (v := ?v14n105) (by simp only [List.getElem?_toArray, List.getElem?_cons_succ, List.getElem?_cons_zero]; rfl) (by kernel_rfl) (by kernel_rfl) (by kernel_rfl) (fun _ _ _ h => False.elim h) (Or.inl ⟨by rfl, ?hy14n105⟩) (by assumption) ?rest14n105; (case hy14n105 => (intro w hSw; (try dsimp only at hSw); go_simp; (try with_reducible rfl))); (try simp only [Act.put, List.setIfInBounds_toArray, List.set_cons_zero, List.set_cons_succ]))
                      (refine wpAnyH_take (i := 16) (v := ?v16n106) (by simp only [List.getElem?_toArray, List.getElem?_cons_succ, List.getElem?_cons_zero]; rfl) (by kernel_rfl) (by kernel_rfl) (by kernel_rfl) (fun _ _ _ h => False.elim h) (Or.inl ⟨by rfl, ?hy16n106⟩) (by assumption) ?rest16n106; (case hy16n106 => (intro w hSw; (try dsimp only at hSw); go_simp; (try with_reducible rfl))); (try simp only [Act.put, List.setIfInBounds_toArray, List.set_cons_zero, List.set_cons_succ]))
                      (refine wpAnyH_take (i := 17) (v := ?v17n107) (by simp only [List.getElem?_toArray, List.getElem?_cons_succ, List.getElem?_cons_zero]; rfl) (by kernel_rfl) (by kernel_rfl) (by kernel_rfl) (fun _ _ _ h => False.elim h) (Or.inl ⟨by rfl, ?hy17n107⟩) (by assumption) ?rest17n107; (case hy17n107 => (intro w hSw; (try dsimp only at hSw); go_simp; (try with_reducible rfl))); (try simp only [Act.put, List.setIfInBounds_toArray, List.set_cons_zero, List.set_cons_succ]))
                      (refine wpAnyH_take (i := 18) (v := ?v18n108) (by simp only [List.getElem?_toArray, List.getElem?_cons_succ, List.getElem?_cons_zero]; rfl) (by kernel_rfl) (by kernel_rfl) (by kernel_rfl) (fun _ _ _ h => False.elim h) (Or.inl ⟨by rfl, ?hy18n108⟩) (by assumption) ?rest18n108; (case hy18n108 => (intro w hSw; (try dsimp only at hSw); go_simp; (try with_reducible rfl))); (try simp only [Act.put, List.setIfInBounds_toArray, List.set_cons_zero, List.set_cons_succ]))
                      (refine wpAnyH_take (i := 19) (v := ?v19n109) (by simp only [List.getElem?_toArray, List.getElem?_cons_succ, List.getElem?_cons_zero]; rfl) (by kernel_rfl) (by kernel_rfl) (by kernel_rfl) (fun _ _ _ h => False.elim h) (Or.inl ⟨by rfl, ?hy19n109⟩) (by assumption) ?rest19n109; (case hy19n109 => (intro w hSw; (try dsimp only at hSw); go_simp; (try with_reducible rfl))); (try simp only [Act.put, List.setIfInBounds_toArray, List.set_cons_zero, List.set_cons_succ]))
                      (refine wpAnyH_take (i := 20) (v := ?v20n110) (by simp only [List.getElem?_toArray, List.getElem?_cons_succ, List.getElem?_cons_zero]; rfl) (by kernel_rfl) (by kernel_rfl) (by kernel_rfl) (fun _ _ _ h => False.elim h) (Or.inl ⟨by rfl, ?hy20n110⟩) (by assumption) ?rest20n110; (case hy20n110 => (intro w hSw; (try dsimp only at hSw); go_simp; (try with_reducible rfl))); (try simp only [Act.put, List.setIfInBounds_toArray, List.set_cons_zero, List.set_cons_succ]))
                      (refine wpAnyH_ready (rs := [15]) (by kernel_rfl) (by simp) ?_; refine AllReadyH.cons (o := _) (by simp only [List.getElem?_toArray, List.getElem?_cons_succ, List.getElem?_cons_zero]; rfl) (fun K hK => ?_) AllReadyH.nil; go_simp; ((with_reducible refine (HLn2.out _ n2).mono ?_); rintro e wx ⟨rfl, rfl⟩); refine hK.out _ _ (by exact HS.out _ n2) (fun hHeld => ?_); clear hK K; (try simp only [Act.put, List.setIfInBounds_toArray, List.set_cons_zero, List.set_cons_succ]))
                      (refine wpAnyH_take (i := 21) (v := ?v21n111) (by simp only [List.getElem?_toArray, List.getElem?_cons_succ, List.getElem?_cons_zero]; rfl) (by kernel_rfl) (by kernel_rfl) (by kernel_rfl) (fun _ _ _ h => False.elim h) (Or.inl ⟨by rfl, ?hy21n111⟩) (by assumption) ?rest21n111; (case hy21n111 => (intro w hSw; (try dsimp only at hSw); go_simp; (try with_reducible rfl))); (try simp only [Act.put, List.setIfInBounds_toArray, List.set_cons_zero, List.set_cons_succ]))
                      (refine wpAnyH_take (i := 22) (v := ?v22n112) (by simp only [List.getElem?_toArray, List.getElem?_cons_succ, List.getElem?_cons_zero]; rfl) (by kernel_rfl) (by kernel_rfl) (by kernel_rfl) (fun _ _ _ h => False.elim h) (Or.inl ⟨by rfl, ?hy22n112⟩) (by assumption) ?rest22n112; (case hy22n112 => (intro w hSw; (try dsimp only at hSw); go_simp; (try with_reducible rfl))); (try simp only [Act.put, List.setIfInBounds_toArray, List.set_cons_zero, List.set_cons_succ]))
                      (refine wpAnyH_take (i := 23) (v := ?v23n113) (by simp only [List.getElem?_toArray, List.getElem?_cons_succ, List.getElem?_cons_zero]; rfl) (by kernel_rfl) (by kernel_rfl) (by kernel_rfl) (fun _ _ _ h => False.elim h) (Or.inl ⟨by rfl, ?hy23n113⟩) (by assumption) ?rest23n113; (case hy23n113 => (intro w hSw; (try dsimp only at hSw); go_simp; (try with_reducible rfl))); (try simp only [Act.put, List.setIfInBounds_toArray, List.set_cons_zero, List.set_cons_succ]))
                      (refine wpAnyH_take (i := 24) (v := ?v24n114) (by simp only [List.getElem?_toArray, List.getElem?_cons_succ, List.getElem?_cons_zero]; rfl) (by kernel_rfl) (by kernel_rfl) (by kernel_rfl) (fun _ _ _ h => False.elim h) (Or.inl ⟨by rfl, ?hy24n114⟩) (by assumption) ?rest24n114; (case hy24n114 => (intro w hSw; (try dsimp only at hSw); go_simp; (try with_reducible rfl))); (try simp only [Act.put, List.setIfInBounds_toArray, List.set_cons_zero, List.set_cons_succ]))
                      (refine wpAnyH_take (i := 26) (v := ?v26n115) (by simp only [List.getElem?_toArray, List.getElem?_cons_succ, List.getElem?_cons_zero]; rfl) (by kernel_rfl) (by kernel_rfl) (by kernel_rfl) (fun _ _ _ h => False.elim h) (Or.inl ⟨by rfl, ?hy26n115⟩) (by assumption) ?rest26n115; (case hy26n115 => (intro w hSw; (try dsimp only at hSw); go_simp; (try with_reducible rfl))); (try simp only [Act.put, List.setIfInBounds_toArray, List.set_cons_zero, List.set_cons_succ]))
                      (refine wpAnyH_take (i := 27) (v := ?v27n116) (by simp only [List.getElem?_toArray, List.getElem?_cons_succ, List.getElem?_cons_zero]; rfl) (by kernel_rfl) (by kernel_rfl) (by kernel_rfl) (fun _ _ _ h => False.elim h) (Or.inl ⟨by rfl, ?hy27n116⟩) (by assumption) ?rest27n116; (case hy27n116 => (intro w hSw; (try dsimp only at hSw); go_simp; (try with_reducible rfl))); (try simp only [Act.put, List.setIfInBounds_toArray, List.set_cons_zero, List.set_cons_succ]))
                      (refine wpAnyH_ready (rs := [25]) (by kernel_rfl) (by simp) ?_; refine AllReadyH.cons (o := _) (by simp only [List.getElem?_toArray, List.getElem?_cons_succ, List.getElem?_cons_zero]; rfl) (fun K hK => ?_) AllReadyH.nil; go_simp; ((with_reducible refine (HBu.out _ n2).mono ?_); rintro e wx ⟨rfl, rfl⟩); refine hK.out _ _ (by exact HS.out _ n2) (fun hHeld => ?_); clear hK K; (try simp only [Act.put, List.setIfInBounds_toArray, List.set_cons_zero, List.set_cons_succ]))
                      (refine wpAnyH_ready (rs := [28]) (by kernel_rfl) (by simp) ?_; refine AllReadyH.cons (o := _) (by simp only [List.getElem?_toArray, List.getElem?_cons_succ, List.getElem?_cons_zero]; rfl) (fun K hK => ?_) AllReadyH.nil; go_simp; ((with_reducible refine (HRh.out _ n2).mono ?_); rintro e wy ⟨rfl, n3⟩); refine hK.out _ _ (by exact HS.out _ n3) (fun hHeld => ?_); clear hK K; (try simp only [Act.put, List.setIfInBounds_toArray, List.set_cons_zero, List.set_cons_succ]))
                      (refine wpAnyH_take (i := 29) (v := ?v29n117) (by simp only [List.getElem?_toArray, List.getElem?_cons_succ, List.getElem?_cons_zero]; rfl) (by kernel_rfl) (by kernel_rfl) (by kernel_rfl) (fun _ _ _ h => False.elim h) (Or.inl ⟨by rfl, ?hy29n117⟩) (by assumption) ?rest29n117; (case hy29n117 => (intro w hSw; (try dsimp only at hSw); go_simp; (try with_reducible rfl))); (try simp only [Act.put, List.setIfInBounds_toArray, List.set_cons_zero, List.set_cons_succ]))
                      (refine wpAnyH_take (i := 30) (v := ?v30n118) (by simp only [List.getElem?_toArray, List.getElem?_cons_succ, List.getElem?_cons_zero]; rfl) (by kernel_rfl) (by kernel_rfl) (by kernel_rfl) (fun _ _ _ h => False.elim h) (Or.inl ⟨by rfl, ?hy30n118⟩) (by assumption) ?rest30n118; (case hy30n118 => (intro w hSw; (try dsimp only at hSw); go_simp; (try with_reducible rfl))); (try simp only [Act.put, List.setIfInBounds_toArray, List.set_cons_zero, List.set_cons_succ]))
                      (refine wpAnyH_take (i := 31) (v := ?v31n119) (by simp only [List.getElem?_toArray, List.getElem?_cons_succ, List.getElem?_cons_zero]; rfl) (by kernel_rfl) (by kernel_rfl) (by kernel_rfl) (fun _ _ _ h => False.elim h) (Or.inl ⟨by rfl, ?hy31n119⟩) (by assumption) ?rest31n119; (case hy31n119 => (intro w hSw; (try dsimp only at hSw); go_simp; (try with_reducible rfl))); (try simp only [Act.put, List.setIfInBounds_toArray, List.set_cons_zero, List.set_cons_succ]))
                      (refine wpAnyH_take (i := 32) (v := ?v32n120) (by simp only [List.getElem?_toArray, List.getElem?_cons_succ, List.getElem?_cons_zero]; rfl) (by kernel_rfl) (by kernel_rfl) (by kernel_rfl) (fun _ _ _ h => False.elim h) (Or.inl ⟨by rfl, ?hy32n120⟩) (by assumption) ?rest32n120; (case hy32n120 => (intro w hSw; (try dsimp only at hSw); go_simp; (try with_reducible rfl))); (try simp only [Act.put, List.setIfInBounds_toArray, List.set_cons_zero, List.set_cons_succ]))
                      (refine wpAnyH_take (i := 33) (v := ?v33n121) (by simp only [List.getElem?_toArray, List.getElem?_cons_succ, List.getElem?_cons_zero]; rfl) (by kernel_rfl) (by kernel_rfl) (by kernel_rfl) (fun _ _ _ h => False.elim h) (Or.inl ⟨by rfl, ?hy33n121⟩) (by assumption) ?rest33n121; (case hy33n121 => (intro w hSw; (try dsimp only at hSw); go_simp; (try with_reducible rfl))); (try simp only [Act.put, List.setIfInBounds_toArray, List.set_cons_zero, List.set_cons_succ]))
                      (refine wpAnyH_take (i := 34) (v := ?v34n122) (by simp only [List.getElem?_toArray, List.getElem?_cons_succ, List.getElem?_cons_zero]; rfl) (by kernel_rfl) (by kernel_rfl) (by kernel_rfl) (fun _ _ _ h => False.elim h) (Or.inl ⟨by rfl, ?hy34n122⟩) (by assumption) ?rest34n122; (case hy34n122 => (intro w hSw; (try dsimp only at hSw); go_simp; (try with_reducible rfl))); (try simp only [Act.put, List.setIfInBounds_toArray, List.set_cons_zero, List.set_cons_succ]))
                      (refine wpAnyH_take (i := 35) (v := ?v35n123) (by simp only [List.getElem?_toArray, List.getElem?_cons_succ, List.getElem?_cons_zero]; rfl) (by kernel_rfl) (by kernel_rfl) (by kernel_rfl) (fun _ _ _ h => False.elim h) (Or.inl ⟨by rfl, ?hy35n123⟩) (by assumption) ?rest35n123; (case hy35n123 => (intro w hSw; (try dsimp only at hSw); go_simp; (try with_reducible rfl))); (try simp only [Act.put, List.setIfInBounds_toArray, List.set_cons_zero, List.set_cons_succ]))
                      (refine wpAnyH_take (i := 36) (v := ?v36n124) (by simp only [List.getElem?_toArray, List.getElem?_cons_succ, List.getElem?_cons_zero]; rfl) (by kernel_rfl) (by kernel_rfl) (by kernel_rfl) (fun _ _ _ h => False.elim h) (Or.inl ⟨by rfl, ?hy36n124⟩) (by assumption) ?rest36n124; (case hy36n124 => (intro w hSw; (try dsimp only at hSw); go_simp; (try with_reducible rfl))); (try simp only [Act.put, List.setIfInBounds_toArray, List.set_cons_zero, List.set_cons_succ]))
                      (refine wpAnyH_take (i := 37) (v := ?v37n125) (by simp only [List.getElem?_toArray, List.getElem?_cons_succ, List.getElem?_cons_zero]; rfl) (by kernel_rfl) (by kernel_rfl) (by kernel_rfl) (fun _ _ _ h => False.elim h) (Or.inl ⟨by rfl, ?hy37n125⟩) (by assumption) ?rest37n125; (case hy37n125 => (intro w hSw; (try dsimp only at hSw); go_simp; (try with_reducible rfl))); (try simp only [Act.put, List.setIfInBounds_toArray, List.set_cons_zero, List.set_cons_succ]))
                      (refine wpAnyH_take (i := 38) (v := ?v38n126) (by simp only [List.getElem?_toArray, List.getElem?_cons_succ, List.getElem?_cons_zero]; rfl) (by kernel_rfl) (by kernel_rfl) (by kernel_rfl) (fun _ _ _ h => False.elim h) (Or.inl ⟨by rfl, ?hy38n126⟩) (by assumption) ?rest38n126; (case hy38n126 => (intro w hSw; (try dsimp only at hSw); go_simp; (try with_reducible rfl))); (try simp only [Act.put, List.setIfInBounds_toArray, List.set_cons_zero, List.set_cons_succ]))
                      (refine wpAnyH_take (i := 39) (v := ?v39n127) (by simp only [List.getElem?_toArray, List.getElem?_cons_succ, List.getElem?_cons_zero]; rfl) (by kernel_rfl) (by kernel_rfl) (by kernel_rfl) (fun _ _ _ h => False.elim h) (Or.inl ⟨by rfl, ?hy39n127⟩) (by assumption) ?rest39n127; (case hy39n127 => (intro w hSw; (try dsimp only at hSw); go_simp; (try with_reducible rfl))); (try simp only [Act.put, List.setIfInBounds_toArray, List.set_cons_zero, List.set_cons_succ]))
                      (refine wpAnyH_take (i := 40) (v := ?v40n128) (by simp only [List.getElem?_toArray, List.getElem?_cons_succ, List.getElem?_cons_zero]; rfl) (by kernel_rfl) (by kernel_rfl) (by kernel_rfl) (fun _ _ _ h => False.elim h) (Or.inl ⟨by rfl, ?hy40n128⟩) (by assumption) ?rest40n128; (case hy40n128 => (intro w hSw; (try dsimp only at hSw); go_simp; (try with_reducible rfl))); (try simp only [Act.put, List.setIfInBounds_toArray, List.set_cons_zero, List.set_cons_succ]))
                      (refine wpAnyH_take (i := 41) (v := ?v41n129) (by simp only [List.getElem?_toArray, List.getElem?_cons_succ, List.getElem?_cons_zero]; rfl) (by kernel_rfl) (by kernel_rfl) (by kernel_rfl) (fun _ _ _ h => False.elim h) (Or.inl ⟨by rfl, ?hy41n129⟩) (by assumption) ?rest41n129; (case hy41n129 => (intro w hSw; (try dsimp only at hSw); go_simp; (try with_reducible rfl))); (try simp only [Act.put, List.setIfInBounds_toArray, List.set_cons_zero, List.set_cons_succ]))
                      (refine wpAnyH_take (i := 42) (v := ?v42n130) (by simp only [List.getElem?_toArray, List.getElem?_cons_succ, List.getElem?_cons_zero]; rfl) (by kernel_rfl) (by kernel_rfl) (by kernel_rfl) (fun _ _ _ h => False.elim h) (Or.inl ⟨by rfl, ?hy42n130⟩) (by assumption) ?rest42n130; (case hy42n130 => (intro w hSw; (try dsimp only at hSw); go_simp; (try with_reducible rfl))); (try simp only [Act.put, List.setIfInBounds_toArray, List.set_cons_zero, List.set_cons_succ]))
                      (refine wpAnyH_take (i := 43) (v := ?v43n131) (by simp only [List.getElem?_toArray, List.getElem?_cons_succ, List.getElem?_cons_zero]; rfl) (by kernel_rfl) (by kernel_rfl) (by kernel_rfl) (fun _ _ _ h => False.elim h) (Or.inl ⟨by rfl, ?hy43n131⟩) (by assumption) ?rest43n131; (case hy43n131 => (intro w hSw; (try dsimp only at hSw); go_simp; (try with_reducible rfl))); (try simp only [Act.put, List.setIfInBounds_toArray, List.set_cons_zero, List.set_cons_succ]))
                      (refine wpAnyH_take (i := 44) (v := ?v44n132) (by simp only [List.getElem?_toArray, List.getElem?_cons_succ, List.getElem?_cons_zero]; rfl) (by kernel_rfl) (by kernel_rfl) (by kernel_rfl) (fun _ _ _ h => False.elim h) (Or.inl ⟨by rfl, ?hy44n132⟩) (by assumption) ?rest44n132; (case hy44n132 => (intro w hSw; (try dsimp only at hSw); go_simp; (try with_reducible rfl))); (try simp only [Act.put, List.setIfInBounds_toArray, List.set_cons_zero, List.set_cons_succ]))
                      (refine wpAnyH_take (i := 45) (v := ?v45n133) (by simp only [List.getElem?_toArray, List.getElem?_cons_succ, List.getElem?_cons_zero]; rfl) (by kernel_rfl) (by kernel_rfl) (by kernel_rfl) (fun _ _ _ h => False.elim h) (Or.inl ⟨by rfl, ?hy45n133⟩) (by assumption) ?rest45n133; (case hy45n133 => (intro w hSw; (try dsimp only at hSw); go_simp; (try with_reducible rfl))); (try simp only [Act.put, List.setIfInBounds_toArray, List.set_cons_zero, List.set_cons_succ]))
                      (refine wpAnyH_take (i := 46) (v := ?v46n134) (by simp only [List.getElem?_toArray, List.getElem?_cons_succ, List.getElem?_cons_zero]; rfl) (by kernel_rfl) (by kernel_rfl) (by kernel_rfl) (fun _ _ _ h => False.elim h) (Or.inl ⟨by rfl, ?hy46n134⟩) (by assumption) ?rest46n134; (case hy46n134 => (intro w hSw; (try dsimp only at hSw); go_simp; (try with_reducible rfl))); (try simp only [Act.put, List.setIfInBounds_toArray, List.set_cons_zero, List.set_cons_succ]))
                      refine wpAnyH_done (by kernel_rfl) ?_ _
                      refine NoPanic.normal ?_
                      clear hHeld
                      have HX := Lib.hid (HPb.out _ n3)
                      clear n0 n2 n3
                      go_wp2_with fail
                      go_meet
                      case rel => first | exact ⟨by first | rfl | simp, HX.out⟩ | ((repeat apply Exists.intro); refine ⟨?r, ?f⟩; (case f => (and_intros <;> rfl)); exact ⟨by first | rfl | simp, HX.out⟩)
                  case rest =>
                    obtain ⟨rfl, hP35⟩ := hcut
                    clear hPR
                    go_upto_region 37 with (fail)
                    go_cut [253] (fun gg W => gg = .bool false ∧ Pc wz W p x y v u sb wr.heap.size (.cells #[.int .i64 kd, .int .i64 nn, .slice aa mm cp, .bool false] 72 (0, 0)) c2 cy c2 cy A C B S nv)
                    case first =>
                      as_aux_lemma =>
                        have hd := hP35.swap
                        have hS : ∀ W, Below wc.heap.size wc W → (W.cell? ⟨sb, 0, none⟩ = some (.int .i64 (B : Int)) ∧ W.cell? ⟨sb, 1, none⟩ = some (.int .i64 (S : Int)) ∧ W.cell? ⟨sb, 2, none⟩ = some (.int .i64 (nv : Int))) := fun W hb => by
                          have hs := (hP35.below hb).sk
                          exact ⟨cell_block hs 0, cell_block hs 1, cell_block hs 2⟩
                        obtain ⟨nu, hnu⟩ : ∃ n, need S c2.frm c2.all.length = n := ⟨_, rfl⟩
                        have hnd := hP35.tw.nd
                        have hnv2 := HNv.out
                        rw [hnu, hnv2] at hnd
                        have hca : c2.acc = 1 := by rw [hac]; exact HAc.out.1
                        have hda : cy.acc = 2 := HAc.out.2
                        have hh1 : ∀ W, Below wc.heap.size wc W → Calls Tryd.prog 16 #[.pointer (some ⟨p, 0, none⟩), .int .i64 1] W fun e w' => e = .returned (.int .i64 (nu : Int)) ∧ W = w' := fun W hb => by
                          have h1 := (hP35.below hb).tw.held
                          rw [hca, hnu] at h1
                          exact h1
                        have hh2 : ∀ W, Below wc.heap.size wc W → Calls Tryd.prog 16 #[.pointer (some ⟨p, 0, none⟩), .int .i64 2] W fun e w' => e = .returned (.int .i64 (nv : Int)) ∧ W = w' := fun W hb => by
                          have h1 := (hP35.below hb).swap.tw.held
                          rw [hda, hnv2] at h1
                          exact h1
                        have hus : ∀ W, Below wc.heap.size wc W → Calls Tryd.prog 18 #[.pointer (some ⟨p, 0, none⟩)] W fun e w' => e = .returned (.int .i64 ((nu : Int) + (nv : Int))) ∧ W = w' := fun W hb => by
                          have h1 := (hP35.below hb).tw.used
                          rw [hnu, hnv2, Int.natCast_add] at h1
                          exact h1
                        have hr1 : ∀ W, Below wc.heap.size wc W → Calls Tryd.prog 40 #[.pointer (some ⟨v, 0, none⟩), .agg #[.int .i64 (B : Int), .int .i64 (S : Int), .int .i64 (nv : Int)]] W fun e w' => e = .returned (.int .i64 (nu : Int)) ∧ Below wc.heap.size wc w' := fun W hb => by
                          obtain ⟨_, hv⟩ := (hP35.below hb).mdl
                          have h1 := rheld_c B S nv hv (by have := HNum.out.2.2.1; omega) (by have h1 := hP35.tw.cw; have h2 := hP35.tw.fs; have h3 := HNum.out.2.2.2.1; have h4 := HCm.out; omega) (by have := HNum.out.2.2.2.1; omega)
                          rw [hnu] at h1
                          exact h1.mono fun _ _ ⟨h2, h3⟩ => ⟨h2, hb.trans (h3.mono hb.size)⟩
                        have hr2 : ∀ W, Below wc.heap.size wc W → Calls Tryd.prog 40 #[.pointer (some ⟨u, 0, none⟩), .agg #[.int .i64 (B : Int), .int .i64 (S : Int), .int .i64 (nv : Int)]] W fun e w' => e = .returned (.int .i64 (nv : Int)) ∧ Below wc.heap.size wc w' := fun W hb => by
                          obtain ⟨_, hv⟩ := (hP35.below hb).swap.mdl
                          have h1 := rheld_c B S nv hv (by have := HNum.out.2.2.1; omega) (by have h1 := hP35.swap.tw.cw; have h2 := hP35.swap.tw.fs; have h3 := HNum.out.2.2.2.1; have h4 := HCm.out; omega) (by have := HNum.out.2.2.2.1; omega)
                          rw [hnv2] at h1
                          exact h1.mono fun _ _ ⟨h2, h3⟩ => ⟨h2, hb.trans (h3.mono hb.size)⟩
                        have hpb := fun W (hb : Below wc.heap.size wc W) => hP35.below hb
                        have n0 : Below wc.heap.size wc wc.drew := (Below.refl _ _).drew
                        have hwrr : IntKind.i64.wrap ((nu : Int) + (nv : Int)) = (nu : Int) + (nv : Int) := by
                          have hB12 := HNum.out.2.1
                          simp [IntKind.wrap, IntKind.bits, IntKind.signed]
                          omega
                        have hwrr2 : IntKind.i64.wrap ((nv : Int) + (nu : Int)) = (nu : Int) + (nv : Int) := by rw [Int.add_comm]; exact hwrr
                        have HS := Lib.hid hS
                        have H1 := Lib.hid hh1
                        have H2 := Lib.hid hh2
                        have HUs := Lib.hid hus
                        have HR1 := Lib.hid hr1
                        have HR2 := Lib.hid hr2
                        have HPb := Lib.hid hpb
                        clear hd hS hnu hnd hnv2 hca hda hh1 hh2 hus hr1 hr2 hpb hP35
                        go_wp2_with fail
                        refine wp_region_noPanic ?_
                        refine wp_region_held_drew (S := fun W => W.cell? ⟨sb, 0, none⟩ = some (.int .i64 (B : Int)) ∧ W.cell? ⟨sb, 1, none⟩ = some (.int .i64 (S : Int)) ∧ W.cell? ⟨sb, 2, none⟩ = some (.int .i64 (nv : Int))) (by kernel_rfl) (HS.out _ n0) (fun hHeld => ?_)
                        (refine wpAnyH_take (i := 0) (v := ?v0n135) (by simp only [List.getElem?_toArray, List.getElem?_cons_succ, List.getElem?_cons_zero]; rfl) (by kernel_rfl) (by kernel_rfl) (by kernel_rfl) (fun _ _ _ h => False.elim h) (Or.inl ⟨by rfl, ?hy0n135⟩) (by assumption) ?rest0n135; (case hy0n135 => (intro w hSw; (try dsimp only at hSw); go_simp; (try with_reducible rfl))); (try simp only [Act.put, List.setIfInBounds_toArray, List.set_cons_zero, List.set_cons_succ]))
                        (refine wpAnyH_take (i := 2) (v := ?v2n136) (by simp only [List.getElem?_toArray, List.getElem?_cons_succ, List.getElem?_cons_zero]; rfl) (by kernel_rfl) (by kernel_rfl) (by kernel_rfl) (fun _ _ _ h => False.elim h) (Or.inl ⟨by rfl, ?hy2n136⟩) (by assumption) ?rest2n136; (case hy2n136 => (intro w hSw; (try dsimp only at hSw); go_simp; (try with_reducible rfl))); (try simp only [Act.put, List.setIfInBounds_toArray, List.set_cons_zero, List.set_cons_succ]))
                        (refine wpAnyH_take (i := 3) (v := ?v3n137) (by simp only [List.getElem?_toArray, List.getElem?_cons_succ, List.getElem?_cons_zero]; rfl) (by kernel_rfl) (by kernel_rfl) (by kernel_rfl) (fun _ _ _ h => False.elim h) (Or.inl ⟨by rfl, ?hy3n137⟩) (by assumption) ?rest3n137; (case hy3n137 => (intro w hSw; (try dsimp only at hSw); go_simp; (try with_reducible rfl))); (try simp only [Act.put, List.setIfInBounds_toArray, List.set_cons_zero, List.set_cons_succ]))
                        (refine wpAnyH_ready (rs := [1]) (by kernel_rfl) (by simp) ?_; refine AllReadyH.cons (o := _) (by simp only [List.getElem?_toArray, List.getElem?_cons_succ, List.getElem?_cons_zero]; rfl) (fun K hK => ?_) AllReadyH.nil; go_simp; ((with_reducible refine (H1.out _ n0).mono ?_); rintro e wx ⟨rfl, rfl⟩; have n1 := n0); refine hK.out _ _ (by exact HS.out _ n1) (fun hHeld => ?_); clear hK K; (try simp only [Act.put, List.setIfInBounds_toArray, List.set_cons_zero, List.set_cons_succ]))
                        (refine wpAnyH_ready (rs := [4]) (by kernel_rfl) (by simp) ?_; refine AllReadyH.cons (o := _) (by simp only [List.getElem?_toArray, List.getElem?_cons_succ, List.getElem?_cons_zero]; rfl) (fun K hK => ?_) AllReadyH.nil; go_simp; ((with_reducible refine (HR1.out _ n1).mono ?_); rintro e wy ⟨rfl, n2⟩); refine hK.out _ _ (by exact HS.out _ n2) (fun hHeld => ?_); clear hK K; (try simp only [Act.put, List.setIfInBounds_toArray, List.set_cons_zero, List.set_cons_succ]))
                        (refine wpAnyH_take (i := 5) (v := ?v5n138) (by simp only [List.getElem?_toArray, List.getElem?_cons_succ, List.getElem?_cons_zero]; rfl) (by kernel_rfl) (by kernel_rfl) (by kernel_rfl) (fun _ _ _ h => False.elim h) (Or.inl ⟨by rfl, ?hy5n138⟩) (by assumption) ?rest5n138; (case hy5n138 => (intro w hSw; (try dsimp only at hSw); go_simp; (try with_reducible rfl))); (try simp only [Act.put, List.setIfInBounds_toArray, List.set_cons_zero, List.set_cons_succ]))
                        (refine wpAnyH_take (i := 6) (v := ?v6n139) (by simp only [List.getElem?_toArray, List.getElem?_cons_succ, List.getElem?_cons_zero]; rfl) (by kernel_rfl) (by kernel_rfl) (by kernel_rfl) (fun _ _ _ h => False.elim h) (Or.inl ⟨by rfl, ?hy6n139⟩) (by assumption) ?rest6n139; (case hy6n139 => (intro w hSw; (try dsimp only at hSw); go_simp; (try with_reducible rfl))); (try simp only [Act.put, List.setIfInBounds_toArray, List.set_cons_zero, List.set_cons_succ]))
                        (refine wpAnyH_take (i := 7) (v := ?v7n140) (by simp only [List.getElem?_toArray, List.getElem?_cons_succ, List.getElem?_cons_zero]; rfl) (by kernel_rfl) (by kernel_rfl) (by kernel_rfl) (fun _ _ _ h => False.elim h) (Or.inl ⟨by rfl, ?hy7n140⟩) (by assumption) ?rest7n140; (case hy7n140 => (intro w hSw; (try dsimp only at hSw); go_simp; (try with_reducible rfl))); (try simp only [Act.put, List.setIfInBounds_toArray, List.set_cons_zero, List.set_cons_succ]))
                        (refine wpAnyH_take (i := 9) (v := ?v9n141) (by simp only [List.getElem?_toArray, List.getElem?_cons_succ, List.getElem?_cons_zero]; rfl) (by kernel_rfl) (by kernel_rfl) (by kernel_rfl) (fun _ _ _ h => False.elim h) (Or.inl ⟨by rfl, ?hy9n141⟩) (by assumption) ?rest9n141; (case hy9n141 => (intro w hSw; (try dsimp only at hSw); go_simp; (try with_reducible rfl))); (try simp only [Act.put, List.setIfInBounds_toArray, List.set_cons_zero, List.set_cons_succ]))
                        (refine wpAnyH_take (i := 10) (v := ?v10n142) (by simp only [List.getElem?_toArray, List.getElem?_cons_succ, List.getElem?_cons_zero]; rfl) (by kernel_rfl) (by kernel_rfl) (by kernel_rfl) (fun _ _ _ h => False.elim h) (Or.inl ⟨by rfl, ?hy10n142⟩) (by assumption) ?rest10n142; (case hy10n142 => (intro w hSw; (try dsimp only at hSw); go_simp; (try with_reducible rfl))); (try simp only [Act.put, List.setIfInBounds_toArray, List.set_cons_zero, List.set_cons_succ]))
                        (refine wpAnyH_ready (rs := [8]) (by kernel_rfl) (by simp) ?_; refine AllReadyH.cons (o := _) (by simp only [List.getElem?_toArray, List.getElem?_cons_succ, List.getElem?_cons_zero]; rfl) (fun K hK => ?_) AllReadyH.nil; go_simp; ((with_reducible refine (H2.out _ n2).mono ?_); rintro e wx ⟨rfl, rfl⟩; have n3 := n2); refine hK.out _ _ (by exact HS.out _ n3) (fun hHeld => ?_); clear hK K; (try simp only [Act.put, List.setIfInBounds_toArray, List.set_cons_zero, List.set_cons_succ]))
                        (refine wpAnyH_ready (rs := [11]) (by kernel_rfl) (by simp) ?_; refine AllReadyH.cons (o := _) (by simp only [List.getElem?_toArray, List.getElem?_cons_succ, List.getElem?_cons_zero]; rfl) (fun K hK => ?_) AllReadyH.nil; go_simp; ((with_reducible refine (HR2.out _ n3).mono ?_); rintro e wy ⟨rfl, n4⟩); refine hK.out _ _ (by exact HS.out _ n4) (fun hHeld => ?_); clear hK K; (try simp only [Act.put, List.setIfInBounds_toArray, List.set_cons_zero, List.set_cons_succ]))
                        (refine wpAnyH_take (i := 12) (v := ?v12n143) (by simp only [List.getElem?_toArray, List.getElem?_cons_succ, List.getElem?_cons_zero]; rfl) (by kernel_rfl) (by kernel_rfl) (by kernel_rfl) (fun _ _ _ h => False.elim h) (Or.inl ⟨by rfl, ?hy12n143⟩) (by assumption) ?rest12n143; (case hy12n143 => (intro w hSw; (try dsimp only at hSw); go_simp; (try with_reducible rfl))); (try simp only [Act.put, List.setIfInBounds_toArray, List.set_cons_zero, List.set_cons_succ]))
                        (refine wpAnyH_take (i := 13) (v := ?v13n144) (by simp only [List.getElem?_toArray, List.getElem?_cons_succ, List.getElem?_cons_zero]; rfl) (by kernel_rfl) (by kernel_rfl) (by kernel_rfl) (fun _ _ _ h => False.elim h) (Or.inl ⟨by rfl, ?hy13n144⟩) (by assumption) ?rest13n144; (case hy13n144 => (intro w hSw; (try dsimp only at hSw); go_simp; (try with_reducible rfl))); (try simp only [Act.put, List.setIfInBounds_toArray, List.set_cons_zero, List.set_cons_succ]))
                        (refine wpAnyH_take (i := 14) (v := ?v14n145) (by simp only [List.getElem?_toArray, List.getElem?_cons_succ, List.getElem?_cons_zero]; rfl) (by kernel_rfl) (by kernel_rfl) (by kernel_rfl) (fun _ _ _ h => False.elim h) (Or.inl ⟨by rfl, ?hy14n145⟩) (by assumption) ?rest14n145; (case hy14n145 => (intro w hSw; (try dsimp only at hSw); go_simp; (try with_reducible rfl))); (try simp only [Act.put, List.setIfInBounds_toArray, List.set_cons_zero, List.set_cons_succ]))
                        (refine wpAnyH_take (i := 15) (v := ?v15n146) (by simp only [List.getElem?_toArray, List.getElem?_cons_succ, List.getElem?_cons_zero]; rfl) (by kernel_rfl) (by kernel_rfl) (by kernel_rfl) (fun _ _ _ h => False.elim h) (Or.inl ⟨by rfl, ?hy15n146⟩) (by assumption) ?rest15n146; (case hy15n146 => (intro w hSw; (try dsimp only at hSw); go_simp; (try with_reducible rfl))); (try simp only [Act.put, List.setIfInBounds_toArray, List.set_cons_zero, List.set_cons_succ]))
                        (refine wpAnyH_take (i := 17) (v := ?v17n147) (by simp only [List.getElem?_toArray, List.getElem?_cons_succ, List.getElem?_cons_zero]; rfl) (by kernel_rfl) (by kernel_rfl) (by kernel_rfl) (fun _ _ _ h => False.elim h) (Or.inl ⟨by rfl, ?hy17n147⟩) (by assumption) ?rest17n147; (case hy17n147 => (intro w hSw; (try dsimp only at hSw); go_simp; (try with_reducible rfl))); (try simp only [Act.put, List.setIfInBounds_toArray, List.set_cons_zero, List.set_cons_succ]))
                        (refine wpAnyH_take (i := 18) (v := ?v18n148) (by simp only [List.getElem?_toArray, List.getElem?_cons_succ, List.getElem?_cons_zero]; rfl) (by kernel_rfl) (by kernel_rfl) (by kernel_rfl) (fun _ _ _ h => False.elim h) (Or.inl ⟨by rfl, ?hy18n148⟩) (by assumption) ?rest18n148; (case hy18n148 => (intro w hSw; (try dsimp only at hSw); go_simp; (try with_reducible rfl))); (try simp only [Act.put, List.setIfInBounds_toArray, List.set_cons_zero, List.set_cons_succ]))
                        (refine wpAnyH_take (i := 20) (v := ?v20n149) (by simp only [List.getElem?_toArray, List.getElem?_cons_succ, List.getElem?_cons_zero]; rfl) (by kernel_rfl) (by kernel_rfl) (by kernel_rfl) (fun _ _ _ h => False.elim h) (Or.inl ⟨by rfl, ?hy20n149⟩) (by assumption) ?rest20n149; (case hy20n149 => (intro w hSw; (try dsimp only at hSw); go_simp; (try with_reducible rfl))); (try simp only [Act.put, List.setIfInBounds_toArray, List.set_cons_zero, List.set_cons_succ]))
                        (refine wpAnyH_take (i := 21) (v := ?v21n150) (by simp only [List.getElem?_toArray, List.getElem?_cons_succ, List.getElem?_cons_zero]; rfl) (by kernel_rfl) (by kernel_rfl) (by kernel_rfl) (fun _ _ _ h => False.elim h) (Or.inl ⟨by rfl, ?hy21n150⟩) (by assumption) ?rest21n150; (case hy21n150 => (intro w hSw; (try dsimp only at hSw); go_simp; (try with_reducible rfl))); (try simp only [Act.put, List.setIfInBounds_toArray, List.set_cons_zero, List.set_cons_succ]))
                        (refine wpAnyH_ready (rs := [16]) (by kernel_rfl) (by simp) ?_; refine AllReadyH.cons (o := _) (by simp only [List.getElem?_toArray, List.getElem?_cons_succ, List.getElem?_cons_zero]; rfl) (fun K hK => ?_) AllReadyH.nil; go_simp; ((with_reducible refine (HUs.out _ n4).mono ?_); rintro e wx ⟨rfl, rfl⟩; have n5 := n4); refine hK.out _ _ (by exact HS.out _ n5) (fun hHeld => ?_); clear hK K; (try simp only [Act.put, List.setIfInBounds_toArray, List.set_cons_zero, List.set_cons_succ]))
                        (refine wpAnyH_ready (rs := [19]) (by kernel_rfl) (by simp) ?_; refine AllReadyH.cons (o := _) (by simp only [List.getElem?_toArray, List.getElem?_cons_succ, List.getElem?_cons_zero]; rfl) (fun K hK => ?_) AllReadyH.nil; go_simp; ((with_reducible refine (HR1.out _ n5).mono ?_); rintro e wy ⟨rfl, n6⟩); refine hK.out _ _ (by exact HS.out _ n6) (fun hHeld => ?_); clear hK K; (try simp only [Act.put, List.setIfInBounds_toArray, List.set_cons_zero, List.set_cons_succ]))
                        (refine wpAnyH_ready (rs := [22]) (by kernel_rfl) (by simp) ?_; refine AllReadyH.cons (o := _) (by simp only [List.getElem?_toArray, List.getElem?_cons_succ, List.getElem?_cons_zero]; rfl) (fun K hK => ?_) AllReadyH.nil; go_simp; ((with_reducible refine (HR2.out _ n6).mono ?_); rintro e wy ⟨rfl, n7⟩); refine hK.out _ _ (by exact HS.out _ n7) (fun hHeld => ?_); clear hK K; (try simp only [Act.put, List.setIfInBounds_toArray, List.set_cons_zero, List.set_cons_succ]))
                        (refine wpAnyH_take (i := 23) (v := ?v23n151) (by simp only [List.getElem?_toArray, List.getElem?_cons_succ, List.getElem?_cons_zero]; rfl) (by kernel_rfl) (by kernel_rfl) (by kernel_rfl) (fun _ _ _ h => False.elim h) (Or.inl ⟨by rfl, ?hy23n151⟩) (by assumption) ?rest23n151; (case hy23n151 => (intro w hSw; (try dsimp only at hSw); go_simp; (try with_reducible rfl))); (try simp only [Act.put, List.setIfInBounds_toArray, List.set_cons_zero, List.set_cons_succ]))
                        (refine wpAnyH_take (i := 24) (v := ?v24n152) (by simp only [List.getElem?_toArray, List.getElem?_cons_succ, List.getElem?_cons_zero]; rfl) (by kernel_rfl) (by kernel_rfl) (by kernel_rfl) (fun _ _ _ h => False.elim h) (Or.inl ⟨by rfl, ?hy24n152⟩) (by assumption) ?rest24n152; (case hy24n152 => (intro w hSw; (try dsimp only at hSw); go_simp; (try with_reducible rfl))); (try simp only [Act.put, List.setIfInBounds_toArray, List.set_cons_zero, List.set_cons_succ]))
                        (refine wpAnyH_take (i := 25) (v := ?v25n153) (by simp only [List.getElem?_toArray, List.getElem?_cons_succ, List.getElem?_cons_zero]; rfl) (by kernel_rfl) (by kernel_rfl) (by kernel_rfl) (fun _ _ _ h => False.elim h) (Or.inl ⟨by rfl, ?hy25n153⟩) (by assumption) ?rest25n153; (case hy25n153 => (intro w hSw; (try dsimp only at hSw); go_simp; (try with_reducible rfl))); (try simp only [Act.put, List.setIfInBounds_toArray, List.set_cons_zero, List.set_cons_succ]))
                        refine wpAnyH_done (by kernel_rfl) ?_ _
                        refine NoPanic.normal ?_
                        clear hHeld
                        have n8 := n7
                        have n9 := n8
                        have HX := Lib.hid (HPb.out _ n9)
                        clear n0 n1 n2 n3 n4 n5 n6 n7 n8 n9 HS H1 H2 HUs HR1 HR2
                        go_wp2_with fail
                        go_meet
                        case rel => first | exact ⟨by first | rfl | simp, HX.out⟩ | ((repeat apply Exists.intro); refine ⟨?r, ?f⟩; (case f => (and_intros <;> rfl)); exact ⟨by first | rfl | simp, HX.out⟩)
                    case rest =>
                      obtain ⟨rfl, hP36⟩ := hcut
                      have H36 := Lib.hid (hP36)
                      clear hP36 hP35
                      go_wp2_with fail
                      go_roundw
                      case rel => first | exact ⟨j + 1, by omega, by go_num, _, _, _, _, _, H36.out, hac.trans HAc.out.1, HAc.out.2, by omega, by have := HCm.out; omega⟩ | ((repeat apply Exists.intro); refine ⟨?r, ?f⟩; (case f => (and_intros <;> rfl)); exact ⟨j + 1, by omega, by go_num, _, _, _, _, _, H36.out, hac.trans HAc.out.1, HAc.out.2, by omega, by have := HCm.out; omega⟩)
                      case measure => simp [cj]; omega
          | true =>
            as_aux_lemma =>
              have hP := hP5.swap
              have hrh := hP.swap.rheld (by have := HNum.out.2.2.1; omega) (by have := HNum.out.2.2.2.1; omega) (by have h1 := hP.swap.tw.cw; have h2 := hP.swap.tw.fs; have h3 := HNum.out.2.2.2.1; omega) o
              have HP := Lib.hid hP
              have hkk := fun W oo {a b} (h : Pc wz W p y x u v sb wr.heap.size (.cells #[.int .i64 kd, .int .i64 nn, .slice aa mm cp, .bool true] 72 (0, 0)) a cx b cx C A B S oo) => And.intro (cell_block h.sk 0) (And.intro (cell_block h.sk 1) (And.intro (cell_block h.sk 2) (And.intro (cell_block h.qk 0) (And.intro (cell_block h.qk 1) (cell_block h.qk 2)))))
              simp only [List.getElem?_toArray, List.getElem?_cons_zero, List.getElem?_cons_succ] at hkk
              obtain ⟨s0, s1, s2, _, _, _⟩ := hkk W5 o hP
              have q3 := cell_block hP.qk 3
              simp only [List.getElem?_toArray, List.getElem?_cons_zero, List.getElem?_cons_succ] at q3
              have q3b := q3
              rw [← hW5] at s0 s1 s2 q3
              have hnvl : (need S cx.frm cx.all.length) ≤ B := by have := hP.tw.nd; omega
              obtain ⟨nv, hnv⟩ : ∃ n, (need S cx.frm cx.all.length) = n := ⟨_, rfl⟩
              rw [hnv] at hrh hnvl
              have HRh := Lib.hid hrh
              have HKk := Lib.hid hkk
              have HW5 := Lib.hid hW5
              have HNv := Lib.hid hnv
              have HQ3 := Lib.hid q3b
              clear hP hP5 hrh hkk hB5 hs5 hW5 hnv q3b
              go_wp2_with fail
              rw [HW5.out]
              with_reducible refine HRh.out.mono ?_
              rintro e w6 ⟨rfl, hP6⟩
              have hP7 := hP6.swap.others nv
              obtain ⟨W7, hW7⟩ : ∃ W7, w6.setCell ⟨sb, 2, none⟩ (.int .i64 (nv : Int)) = W7 := ⟨_, rfl⟩
              rw [hW7] at hP7
              obtain ⟨_, _, s2, a0, _, _⟩ := HKk.out w6 o hP6.swap
              have sf := frozen_block hP6.swap.sk 2
              obtain ⟨_, _, _, e0, e1, e2⟩ := HKk.out W7 nv hP7
              rw [← hW7] at e0 e1 e2
              have HW7 := Lib.hid hW7
              have HP7 := Lib.hid hP7
              clear hP6 hP7 hW7 s0 s1 q3 HRh k0 k1 k2 k3
              go_upto_block 2 with (fail)
              rw [HW7.out]
              clear s2 sf a0 e0 e1 e2
              go_cut [16] (fun gg W => gg = .bool true ∧ ∃ cu', Pc wz W p y x u v sb wr.heap.size (.cells #[.int .i64 kd, .int .i64 nn, .slice aa mm cp, .bool true] 72 (0, 0)) cu' cx cu' cx C A B S nv ∧ cu'.acc = cy.acc ∧ cu'.came ≤ 200 * (j + 1))
              case first =>
                obtain ⟨s0, s1, s2, a0, a1, a2⟩ := HKk.out W7 nv HP7.out
                by_cases h0 : kd = 0
                · as_aux_lemma =>
                    subst h0
                    have hb7 := HP7.out.tw
                    have hpc := HP7.out.chain (fun K hT => hT.push E aa cp bs HSz'.out HTz.out (by have := HCm.out; omega) HRd.out)
                    have hsp := (psh_spec (one S cy.frm C (need S cx.frm cx.all.length) B) bs.length cy.all.length).2
                    have hpm := fun W (h : Pc wz W p y x u v sb wr.heap.size (.cells #[.int .i64 0, .int .i64 nn, .slice aa mm cp, .bool true] 72 (0, 0)) (psd cy (bs.take (psh (one S cy.frm C (need S cx.frm cx.all.length) B) cy.all.length bs.length).1)) cx cy cx C A B S nv) => h.rpush aa cp bs (by have := HNum.out.2.2.1; omega) (by have := HNum.out.2.2.2.1; omega) (by have := HNum.out.2.1; omega) (by have := HNum.out.2.1; omega) hb7.fs hb7.z (by have := HCm.out; omega) hb7.cw HRd.out
                    rw [HNv.out] at hpc hpm hsp
                    have her : (psh (one S cy.frm C nv B) cy.all.length bs.length).2 = 0 ∨ (psh (one S cy.frm C nv B) cy.all.length bs.length).2 = 13 ∨ (psh (one S cy.frm C nv B) cy.all.length bs.length).2 = 14 := by
                      rcases hsp with h1 | h1
                      · exact .inl h1.2
                      · rw [h1.2.2]
                        unfold one
                        split
                        · split
                          · exact .inr (.inr rfl)
                          · split
                            · exact .inr (.inl rfl)
                            · exact .inl rfl
                        · exact .inl rfl
                    generalize psh (one S cy.frm C nv B) cy.all.length bs.length = r at *
                    obtain ⟨k, er⟩ := r
                    simp only at hpc hpm her
                    have hnm := fun W {a b} (h : Pc wz W p y x u v sb wr.heap.size (.cells #[.int .i64 0, .int .i64 nn, .slice aa mm cp, .bool true] 72 (0, 0)) a cx b cx C A B S nv) => h.num E HSz'.out (k := er) (by omega) (by omega)
                    have HKm := Lib.hid HMm.out
                    rw [HMm.out] at hpc hpm
                    generalize ee E er = ev at *
                    have HPc := Lib.hid hpc
                    have HPm := Lib.hid hpm
                    have HNm := Lib.hid hnm
                    clear hpc hpm hnm hsp hb7 her
                    go_wp2_with fail
                    with_reducible refine HPc.out.mono ?_
                    rintro e w8 ⟨rfl, hP8⟩
                    have hPm := HPm.out w8 hP8
                    obtain ⟨s0, s1, s2, a0, a1, a2⟩ := HKk.out w8 nv hP8
                    have HPm8 := Lib.hid hPm
                    clear hP8 hPm HPc HPm
                    go_wp2_with fail
                    with_reducible refine HPm8.out.mono ?_
                    rintro e w9 ⟨rfl, hP9⟩
                    have HN9 := Lib.hid (HNm.out w9 hP9)
                    clear hP9 HPm8 HNm s0 s1 s2 a0 a1 a2
                    go_wp2_with fail
                    with_reducible refine HN9.out.mono ?_
                    rintro e w10 ⟨rfl, hP10⟩
                    have H10 := Lib.hid hP10
                    clear hP10 HN9
                    go_wp2_with fail
                    go_meet
                    case rel => first | exact ⟨rfl, psd cy (bs.take k), H10.out, rfl, by simp only [psd, List.length_take]; have := HCm.out; omega⟩ | ((repeat apply Exists.intro); refine ⟨?r, ?f⟩; (case f => (and_intros <;> rfl)); exact ⟨rfl, psd cy (bs.take k), H10.out, rfl, by simp only [psd, List.length_take]; have := HCm.out; omega⟩)
                · by_cases h1 : kd = 1
                  · as_aux_lemma =>
                      subst h1
                      have hb7 := HP7.out.tw
                      have hpc := fun W {b} (h : Pc wz W p y x u v sb wr.heap.size (.cells #[.int .i64 1, .int .i64 nn, .slice aa mm cp, .bool true] 72 (0, 0)) cy cx b cx C A B S nv) => h.chain (fun K hT => hT.drop E nn HSz'.out (by have := HCm.out; omega))
                      have hpm := fun W {a} (h : Pc wz W p y x u v sb wr.heap.size (.cells #[.int .i64 1, .int .i64 nn, .slice aa mm cp, .bool true] 72 (0, 0)) a cx cy cx C A B S nv) => h.rdrop nn (by have := HNum.out.2.2.1; omega) (by have := HNum.out.2.2.2.1; omega) hb7.fs (by have := HCm.out; omega) hb7.cw
                      have her : (if 0 ≤ nn ∧ nn ≤ (cy.all.length : Int) then (0 : Int) else 1) = 0 ∨ (if 0 ≤ nn ∧ nn ≤ (cy.all.length : Int) then (0 : Int) else 1) = 1 := by split <;> simp
                      have hcm' : (if 0 ≤ nn ∧ nn ≤ (cy.all.length : Int) then drp S cy nn.toNat else cy).acc = cy.acc ∧ (if 0 ≤ nn ∧ nn ≤ (cy.all.length : Int) then drp S cy nn.toNat else cy).came ≤ 200 * (j + 1) := by
                        have := HCm.out
                        split
                        · exact ⟨rfl, by simp only [drp]; omega⟩
                        · exact ⟨rfl, by omega⟩
                      generalize (if 0 ≤ nn ∧ nn ≤ (cy.all.length : Int) then drp S cy nn.toNat else cy) = c2 at *
                      generalize (if 0 ≤ nn ∧ nn ≤ (cy.all.length : Int) then (0 : Int) else 1) = er at *
                      have hnm := fun W {a b} (h : Pc wz W p y x u v sb wr.heap.size (.cells #[.int .i64 1, .int .i64 nn, .slice aa mm cp, .bool true] 72 (0, 0)) a cx b cx C A B S nv) => h.num E HSz'.out (k := er) (by omega) (by omega)
                      generalize ee E er = ev at *
                      have HPc := Lib.hid hpc
                      have HPm := Lib.hid hpm
                      have HNm := Lib.hid hnm
                      have X0 : Pc wz W7.drew p y x u v sb wr.heap.size (.cells #[.int .i64 1, .int .i64 nn, .slice aa mm cp, .bool true] 72 (0, 0)) cy cx cy cx C A B S nv := HP7.out.below (Below.refl _ _).drew
                      have HS := Lib.hid (fun W {a b} (h : Pc wz W p y x u v sb wr.heap.size (.cells #[.int .i64 1, .int .i64 nn, .slice aa mm cp, .bool true] 72 (0, 0)) a cx b cx C A B S nv) => show ((W.cell? ⟨sb, 0, none⟩ = some (.int .i64 (B : Int)) ∧ W.cell? ⟨sb, 1, none⟩ = some (.int .i64 (S : Int)) ∧ W.cell? ⟨sb, 2, none⟩ = some (.int .i64 (nv : Int))) ∧ (W.cell? ⟨wr.heap.size, 0, none⟩ = some (.int .i64 1) ∧ W.cell? ⟨wr.heap.size, 1, none⟩ = some (.int .i64 nn) ∧ W.cell? ⟨wr.heap.size, 2, none⟩ = some (.slice aa mm cp))) from (HKk.out W nv h) |> fun ⟨g0, g1, g2, g3, g4, g5⟩ => ⟨⟨g0, g1, g2⟩, g3, g4, g5⟩)
                      have HC2 := Lib.hid hcm'
                      clear hpc hpm hnm hb7 her hcm' s0 s1 s2 a1 a2
                      go_wp2_with fail
                      clear a0
                      go_region_held3 (fun W => (W.cell? ⟨sb, 0, none⟩ = some (.int .i64 (B : Int)) ∧ W.cell? ⟨sb, 1, none⟩ = some (.int .i64 (S : Int)) ∧ W.cell? ⟨sb, 2, none⟩ = some (.int .i64 (nv : Int))) ∧ (W.cell? ⟨wr.heap.size, 0, none⟩ = some (.int .i64 1) ∧ W.cell? ⟨wr.heap.size, 1, none⟩ = some (.int .i64 nn) ∧ W.cell? ⟨wr.heap.size, 2, none⟩ = some (.slice aa mm cp))) (first | exact HS.out _ X3 | exact HS.out _ X2 | exact HS.out _ X1 | exact HS.out _ X0)
                        (first
                          | (go_at_call 37; first | (with_reducible refine (HPc.out _ X0).mono ?_; rintro e wa ⟨rfl, X1⟩) | (with_reducible refine (HPc.out _ X1).mono ?_; rintro e wb ⟨rfl, X2⟩))
                          | (go_at_call 22; first | (with_reducible refine (HNm.out _ X2).mono ?_; rintro e wc ⟨rfl, X3⟩) | (with_reducible refine (HNm.out _ X1).mono ?_; rintro e wb ⟨rfl, X2⟩))
                          | (go_at_call 42; first | (with_reducible refine (HPm.out _ X2).mono ?_; rintro e wc ⟨rfl, X3⟩) | (with_reducible refine (HPm.out _ X1).mono ?_; rintro e wb ⟨rfl, X2⟩) | (with_reducible refine (HPm.out _ X0).mono ?_; rintro e wa ⟨rfl, X1⟩)))
                      all_goals
                        have HX3 := Lib.hid X3
                        clear X0 X1 X2 X3
                        go_wp2
                        go_meet
                        case rel => first | exact ⟨by simp, c2, HX3.out, HC2.out⟩ | ((repeat apply Exists.intro); (refine ⟨?_, ?_⟩); rotate_left 1; (focus (and_intros <;> rfl)); exact ⟨by simp, c2, HX3.out, HC2.out⟩)
                  · by_cases h2 : kd = 2
                    · as_aux_lemma =>
                        subst h2
                        have hpc := HP7.out.tw.atb E nn HSz'.out (by have := HCm.out; omega)
                        have hml := fun W {a} (h : Pc wz W p y x u v sb wr.heap.size (.cells #[.int .i64 2, .int .i64 nn, .slice aa mm cp, .bool true] 72 (0, 0)) a cx cy cx C A B S nv) => h.mdl.elim (fun _ hv => hv.cells)
                        have hpb := fun W (hb : Below W7.heap.size W7 W) => HP7.out.below hb
                        obtain ⟨amo, cmo, hrm, _, _, _, m2, _⟩ := hml W7 HP7.out
                        have hrmd := fun W (hb : Below W7.heap.size W7 W) => hrm.keep hb
                        have hmc := fun W (hb : Below W7.heap.size W7 W) => (hb.cell (lt_of_cell m2)).trans m2
                        have hlc : cy.all.length ≤ 12200 := by have := HP7.out.tw.cw; have := HCm.out; omega
                        by_cases hin : 0 ≤ nn ∧ nn < (cy.all.length : Int)
                        · obtain ⟨jn, rfl⟩ : ∃ jn : Nat, nn = (jn : Int) := ⟨nn.toNat, by omega⟩
                          have hjl : jn < cy.all.length := by omega
                          rw [if_pos hin.1, if_pos hin, Int.toNat_natCast, List.getD_eq_getElem?_getD, List.getElem?_eq_getElem hjl, Option.getD_some, show ee E 0 = Value.nilIface from rfl] at hpc
                          obtain ⟨g1, o1, rfl, hcr⟩ := hrm.u8 jn hjl
                          have hcrd := fun W (hb : Below W7.heap.size W7 W) => (hb.cell (lt_of_cell hcr)).trans hcr
                          generalize cy.all[jn].toNat = bv at *
                          obtain ⟨L, hL⟩ : ∃ L, cy.all.length = L := ⟨_, rfl⟩
                          rw [hL] at hjl hmc hlc
                          have HPc := Lib.hid hpc
                          have HSk := Lib.hid (show ∀ W, Below W7.heap.size W7 W → W.cell? ⟨wr.heap.size, 1, none⟩ = some (.int .i64 (jn : Int)) ∧ W.cell? ⟨u, 2, none⟩ = some (.slice (some ⟨g1, o1, none⟩) L cmo) ∧ W.cell? ⟨g1, o1 + jn, none⟩ = some (.int .u8 (bv : Int)) from fun W hb => ⟨(HKk.out W nv (hpb W hb)).2.2.2.2.1, hmc W hb, hcrd W hb⟩)
                          have HPb := Lib.hid hpb
                          have hd1 : decide ((0 : Int) ≤ (jn : Int)) = true := decide_eq_true (by omega)
                          have hd2 : decide ((jn : Int) < (L : Int)) = true := decide_eq_true (by omega)
                          have hd3 : decide (jn < L) = true := decide_eq_true (by omega)
                          have hj0 : (0 : Int) ≤ (jn : Int) := by omega
                          have hj1 : (jn : Int) < (L : Int) := by omega
                          clear hpc hml hpb hrm hrmd hmc hcr hcrd m2 hL hin s0 s1 s2
                          go_wp2_with fail
                          with_reducible refine HPc.out.mono ?_
                          rintro e w8 ⟨rfl, hb8⟩
                          have n1 : Below W7.heap.size W7 w8.drew := hb8.drew
                          clear hb8 HPc a0 a1 a2
                          go_wp2_with fail
                          refine wp_region_noPanic ?_
                          refine wp_region_held_drew (S := fun W => W.cell? ⟨wr.heap.size, 1, none⟩ = some (.int .i64 (jn : Int)) ∧ W.cell? ⟨u, 2, none⟩ = some (.slice (some ⟨g1, o1, none⟩) L cmo) ∧ W.cell? ⟨g1, o1 + jn, none⟩ = some (.int .u8 (bv : Int))) (by kernel_rfl) (HSk.out _ n1) (fun hHeld => ?_)
                          (refine wpAnyH_take (i := 0) (v := ?v0n154) (by simp only [List.getElem?_toArray, List.getElem?_cons_succ, List.getElem?_cons_zero]; rfl) (by kernel_rfl) (by kernel_rfl) (by kernel_rfl) (fun _ _ _ h => False.elim h) (Or.inl ⟨by rfl, ?hy0n154⟩) (by assumption) ?rest0n154; (case hy0n154 => (intro w hSw; (try dsimp only at hSw); go_simp; (try with_reducible rfl))); (try simp only [Act.put, List.setIfInBounds_toArray, List.set_cons_zero, List.set_cons_succ]))
                          (refine wpAnyH_take (i := 1) (v := ?v1n155) (by simp only [List.getElem?_toArray, List.getElem?_cons_succ, List.getElem?_cons_zero]; rfl) (by kernel_rfl) (by kernel_rfl) (by kernel_rfl) (fun _ _ _ h => False.elim h) (Or.inl ⟨by rfl, ?hy1n155⟩) (by assumption) ?rest1n155; (case hy1n155 => (intro w hSw; (try dsimp only at hSw); go_simp; (try with_reducible rfl))); (try simp only [Act.put, List.setIfInBounds_toArray, List.set_cons_zero, List.set_cons_succ]))
                          (refine wpAnyH_take (i := 2) (v := ?v2n156) (by simp only [List.getElem?_toArray, List.getElem?_cons_succ, List.getElem?_cons_zero]; rfl) (by kernel_rfl) (by kernel_rfl) (by kernel_rfl) (fun _ _ _ h => False.elim h) (Or.inl ⟨by rfl, ?hy2n156⟩) (by assumption) ?rest2n156; (case hy2n156 => (intro w hSw; (try dsimp only at hSw); go_simp; (try with_reducible rfl))); (try simp only [Act.put, List.setIfInBounds_toArray, List.set_cons_zero, List.set_cons_succ]))
                          (refine wpAnyH_take (i := 3) (v := ?v3n157) (by simp only [List.getElem?_toArray, List.getElem?_cons_succ, List.getElem?_cons_zero]; rfl) (by kernel_rfl) (by kernel_rfl) (by kernel_rfl) (fun _ _ _ h => False.elim h) (Or.inl ⟨by rfl, ?hy3n157⟩) (by assumption) ?rest3n157; (case hy3n157 => (intro w hSw; (try dsimp only at hSw); go_simp; (try with_reducible rfl))); (try simp only [Act.put, List.setIfInBounds_toArray, List.set_cons_zero, List.set_cons_succ]))
                          (refine wpAnyH_take (i := 4) (v := ?v4n158) (by simp only [List.getElem?_toArray, List.getElem?_cons_succ, List.getElem?_cons_zero]; rfl) (by kernel_rfl) (by kernel_rfl) (by kernel_rfl) (fun _ _ _ h => False.elim h) (Or.inl ⟨by rfl, ?hy4n158⟩) (by assumption) ?rest4n158; (case hy4n158 => (intro w hSw; (try dsimp only at hSw); go_simp; (try with_reducible rfl))); (try simp only [Act.put, List.setIfInBounds_toArray, List.set_cons_zero, List.set_cons_succ]))
                          (refine wpAnyH_take (i := 5) (v := ?v5n159) (by simp only [List.getElem?_toArray, List.getElem?_cons_succ, List.getElem?_cons_zero]; rfl) (by kernel_rfl) (by kernel_rfl) (by kernel_rfl) (fun _ _ _ h => False.elim h) (Or.inl ⟨by rfl, ?hy5n159⟩) (by assumption) ?rest5n159; (case hy5n159 => (intro w hSw; (try dsimp only at hSw); go_simp; (try with_reducible rfl))); (try simp only [Act.put, List.setIfInBounds_toArray, List.set_cons_zero, List.set_cons_succ]))
                          (refine wpAnyH_take (i := 6) (v := ?v6n160) (by simp only [List.getElem?_toArray, List.getElem?_cons_succ, List.getElem?_cons_zero]; rfl) (by kernel_rfl) (by kernel_rfl) (by kernel_rfl) (fun _ _ _ h => False.elim h) (Or.inl ⟨by rfl, ?hy6n160⟩) (by assumption) ?rest6n160; (case hy6n160 => (intro w hSw; (try dsimp only at hSw); go_simp; (try with_reducible rfl))); (try simp only [Act.put, List.setIfInBounds_toArray, List.set_cons_zero, List.set_cons_succ]))
                          (refine wpAnyH_take (i := 7) (v := ?v7n161) (by simp only [List.getElem?_toArray, List.getElem?_cons_succ, List.getElem?_cons_zero]; rfl) (by kernel_rfl) (by kernel_rfl) (by kernel_rfl) (fun _ _ _ h => False.elim h) (Or.inl ⟨by rfl, ?hy7n161⟩) (by assumption) ?rest7n161; (case hy7n161 => (intro w hSw; (try dsimp only at hSw); go_simp; (try with_reducible rfl))); (try simp only [Act.put, List.setIfInBounds_toArray, List.set_cons_zero, List.set_cons_succ]))
                          (refine wpAnyH_take (i := 8) (v := ?v8n162) (by simp only [List.getElem?_toArray, List.getElem?_cons_succ, List.getElem?_cons_zero]; rfl) (by kernel_rfl) (by kernel_rfl) (by kernel_rfl) (fun _ _ _ h => False.elim h) (Or.inl ⟨by rfl, ?hy8n162⟩) (by assumption) ?rest8n162; (case hy8n162 => (intro w hSw; (try dsimp only at hSw); go_simp; (try with_reducible rfl))); (try simp only [Act.put, List.setIfInBounds_toArray, List.set_cons_zero, List.set_cons_succ]))
                          (refine wpAnyH_take (i := 9) (v := ?v9n163) (by simp only [List.getElem?_toArray, List.getElem?_cons_succ, List.getElem?_cons_zero]; rfl) (by kernel_rfl) (by kernel_rfl) (by kernel_rfl) (fun _ _ _ h => False.elim h) (Or.inl ⟨by rfl, ?hy9n163⟩) (by assumption) ?rest9n163; (case hy9n163 => (intro w hSw; (try dsimp only at hSw); go_simp; (try with_reducible rfl))); (try simp only [Act.put, List.setIfInBounds_toArray, List.set_cons_zero, List.set_cons_succ]))
                          (refine wpAnyH_take (i := 10) (v := ?v10n164) (by simp only [List.getElem?_toArray, List.getElem?_cons_succ, List.getElem?_cons_zero]; rfl) (by kernel_rfl) (by kernel_rfl) (by kernel_rfl) (fun _ _ _ h => False.elim h) (Or.inl ⟨by rfl, ?hy10n164⟩) (by assumption) ?rest10n164; (case hy10n164 => (intro w hSw; (try dsimp only at hSw); go_simp; (try with_reducible rfl))); (try simp only [Act.put, List.setIfInBounds_toArray, List.set_cons_zero, List.set_cons_succ]))
                          (refine wpAnyH_take (i := 11) (v := ?v11n165) (by simp only [List.getElem?_toArray, List.getElem?_cons_succ, List.getElem?_cons_zero]; rfl) (by kernel_rfl) (by kernel_rfl) (by kernel_rfl) (fun _ _ _ h => False.elim h) (Or.inl ⟨by rfl, ?hy11n165⟩) (by assumption) ?rest11n165; (case hy11n165 => (intro w hSw; (try dsimp only at hSw); go_simp; (try with_reducible rfl))); (try simp only [Act.put, List.setIfInBounds_toArray, List.set_cons_zero, List.set_cons_succ]))
                          (refine wpAnyH_take (i := 12) (v := ?v12n166) (by simp only [List.getElem?_toArray, List.getElem?_cons_succ, List.getElem?_cons_zero]; rfl) (by kernel_rfl) (by kernel_rfl) (by kernel_rfl) (fun _ _ _ h => False.elim h) (Or.inl ⟨by rfl, ?hy12n166⟩) (by assumption) ?rest12n166; (case hy12n166 => (intro w hSw; (try dsimp only at hSw); go_simp; (try with_reducible rfl))); (try simp only [Act.put, List.setIfInBounds_toArray, List.set_cons_zero, List.set_cons_succ]))
                          (refine wpAnyH_take (i := 13) (v := ?v13n167) (by simp only [List.getElem?_toArray, List.getElem?_cons_succ, List.getElem?_cons_zero]; rfl) (by kernel_rfl) (by kernel_rfl) (by kernel_rfl) (fun _ _ _ h => False.elim h) (Or.inl ⟨by rfl, ?hy13n167⟩) (by assumption) ?rest13n167; (case hy13n167 => (intro w hSw; (try dsimp only at hSw); go_simp; (try with_reducible rfl))); (try simp only [Act.put, List.setIfInBounds_toArray, List.set_cons_zero, List.set_cons_succ]))
                          refine wpAnyH_done (by kernel_rfl) ?_ _
                          refine NoPanic.normal ?_
                          clear hHeld
                          have n2 : Below W7.heap.size W7 w8.drew.drew := n1.drew
                          clear n1
                          go_wp2_with fail
                          refine wp_region_noPanic ?_
                          refine wp_region_held_drew (S := fun W => W.cell? ⟨wr.heap.size, 1, none⟩ = some (.int .i64 (jn : Int)) ∧ W.cell? ⟨u, 2, none⟩ = some (.slice (some ⟨g1, o1, none⟩) L cmo) ∧ W.cell? ⟨g1, o1 + jn, none⟩ = some (.int .u8 (bv : Int))) (by kernel_rfl) (HSk.out _ n2) (fun hHeld => ?_)
                          (refine wpAnyH_take (i := 0) (v := ?v0n168) (by simp only [List.getElem?_toArray, List.getElem?_cons_succ, List.getElem?_cons_zero]; rfl) (by kernel_rfl) (by kernel_rfl) (by kernel_rfl) (fun _ _ _ h => False.elim h) (Or.inl ⟨by rfl, ?hy0n168⟩) (by assumption) ?rest0n168; (case hy0n168 => (intro w hSw; (try dsimp only at hSw); go_simp; (try with_reducible rfl))); (try simp only [Act.put, List.setIfInBounds_toArray, List.set_cons_zero, List.set_cons_succ]))
                          (refine wpAnyH_take (i := 1) (v := ?v1n169) (by simp only [List.getElem?_toArray, List.getElem?_cons_succ, List.getElem?_cons_zero]; rfl) (by kernel_rfl) (by kernel_rfl) (by kernel_rfl) (fun _ _ _ h => False.elim h) (Or.inl ⟨by rfl, ?hy1n169⟩) (by assumption) ?rest1n169; (case hy1n169 => (intro w hSw; (try dsimp only at hSw); go_simp; (try with_reducible rfl))); (try simp only [Act.put, List.setIfInBounds_toArray, List.set_cons_zero, List.set_cons_succ]))
                          (refine wpAnyH_take (i := 2) (v := ?v2n170) (by simp only [List.getElem?_toArray, List.getElem?_cons_succ, List.getElem?_cons_zero]; rfl) (by kernel_rfl) (by kernel_rfl) (by kernel_rfl) (fun _ _ _ h => False.elim h) (Or.inl ⟨by rfl, ?hy2n170⟩) (by assumption) ?rest2n170; (case hy2n170 => (intro w hSw; (try dsimp only at hSw); go_simp; (try with_reducible rfl))); (try simp only [Act.put, List.setIfInBounds_toArray, List.set_cons_zero, List.set_cons_succ]))
                          (refine wpAnyH_take (i := 3) (v := ?v3n171) (by simp only [List.getElem?_toArray, List.getElem?_cons_succ, List.getElem?_cons_zero]; rfl) (by kernel_rfl) (by kernel_rfl) (by kernel_rfl) (fun _ _ _ h => False.elim h) (Or.inl ⟨by rfl, ?hy3n171⟩) (by assumption) ?rest3n171; (case hy3n171 => (intro w hSw; (try dsimp only at hSw); go_simp; (try with_reducible rfl))); (try simp only [Act.put, List.setIfInBounds_toArray, List.set_cons_zero, List.set_cons_succ]))
                          (refine wpAnyH_take (i := 4) (v := ?v4n172) (by simp only [List.getElem?_toArray, List.getElem?_cons_succ, List.getElem?_cons_zero]; rfl) (by kernel_rfl) (by kernel_rfl) (by kernel_rfl) (fun _ _ _ h => False.elim h) (Or.inl ⟨by rfl, ?hy4n172⟩) (by assumption) ?rest4n172; (case hy4n172 => (intro w hSw; (try dsimp only at hSw); go_simp; (try with_reducible rfl))); (try simp only [Act.put, List.setIfInBounds_toArray, List.set_cons_zero, List.set_cons_succ]))
                          (refine wpAnyH_take (i := 5) (v := ?v5n173) (by simp only [List.getElem?_toArray, List.getElem?_cons_succ, List.getElem?_cons_zero]; rfl) (by kernel_rfl) (by kernel_rfl) (by kernel_rfl) (fun _ _ _ h => False.elim h) (Or.inl ⟨by rfl, ?hy5n173⟩) (by assumption) ?rest5n173; (case hy5n173 => (intro w hSw; (try dsimp only at hSw); go_simp; (try with_reducible rfl))); (try simp only [Act.put, List.setIfInBounds_toArray, List.set_cons_zero, List.set_cons_succ]))
                          (refine wpAnyH_take (i := 6) (v := ?v6n174) (by simp only [List.getElem?_toArray, List.getElem?_cons_succ, List.getElem?_cons_zero]; rfl) (by kernel_rfl) (by kernel_rfl) (by kernel_rfl) (fun _ _ _ h => False.elim h) (Or.inl ⟨by rfl, ?hy6n174⟩) (by assumption) ?rest6n174; (case hy6n174 => (intro w hSw; (try dsimp only at hSw); go_simp; (try with_reducible rfl))); (try simp only [Act.put, List.setIfInBounds_toArray, List.set_cons_zero, List.set_cons_succ]))
                          (refine wpAnyH_take (i := 7) (v := ?v7n175) (by simp only [List.getElem?_toArray, List.getElem?_cons_succ, List.getElem?_cons_zero]; rfl) (by kernel_rfl) (by kernel_rfl) (by kernel_rfl) (fun _ _ _ h => False.elim h) (Or.inl ⟨by rfl, ?hy7n175⟩) (by assumption) ?rest7n175; (case hy7n175 => (intro w hSw; (try dsimp only at hSw); go_simp; (try with_reducible rfl))); (try simp only [Act.put, List.setIfInBounds_toArray, List.set_cons_zero, List.set_cons_succ]))
                          (refine wpAnyH_take (i := 8) (v := ?v8n176) (by simp only [List.getElem?_toArray, List.getElem?_cons_succ, List.getElem?_cons_zero]; rfl) (by kernel_rfl) (by kernel_rfl) (by kernel_rfl) (fun _ _ _ h => False.elim h) (Or.inl ⟨by rfl, ?hy8n176⟩) (by assumption) ?rest8n176; (case hy8n176 => (intro w hSw; (try dsimp only at hSw); go_simp; (try with_reducible rfl))); (try simp only [Act.put, List.setIfInBounds_toArray, List.set_cons_zero, List.set_cons_succ]))
                          (refine wpAnyH_take (i := 9) (v := ?v9n177) (by simp only [List.getElem?_toArray, List.getElem?_cons_succ, List.getElem?_cons_zero]; rfl) (by kernel_rfl) (by kernel_rfl) (by kernel_rfl) (fun _ _ _ h => False.elim h) (Or.inl ⟨by rfl, ?hy9n177⟩) (by assumption) ?rest9n177; (case hy9n177 => (intro w hSw; (try dsimp only at hSw); go_simp; (try with_reducible rfl))); (try simp only [Act.put, List.setIfInBounds_toArray, List.set_cons_zero, List.set_cons_succ]))
                          (refine wpAnyH_take (i := 10) (v := ?v10n178) (by simp only [List.getElem?_toArray, List.getElem?_cons_succ, List.getElem?_cons_zero]; rfl) (by kernel_rfl) (by kernel_rfl) (by kernel_rfl) (fun _ _ _ h => False.elim h) (Or.inl ⟨by rfl, ?hy10n178⟩) (by assumption) ?rest10n178; (case hy10n178 => (intro w hSw; (try dsimp only at hSw); go_simp; (try with_reducible rfl))); (try simp only [Act.put, List.setIfInBounds_toArray, List.set_cons_zero, List.set_cons_succ]))
                          (refine wpAnyH_take (i := 11) (v := ?v11n179) (by simp only [List.getElem?_toArray, List.getElem?_cons_succ, List.getElem?_cons_zero]; rfl) (by kernel_rfl) (by kernel_rfl) (by kernel_rfl) (fun _ _ _ h => False.elim h) (Or.inl ⟨by rfl, ?hy11n179⟩) (by assumption) ?rest11n179; (case hy11n179 => (intro w hSw; (try dsimp only at hSw); go_simp; (try with_reducible rfl))); (try simp only [Act.put, List.setIfInBounds_toArray, List.set_cons_zero, List.set_cons_succ]))
                          (refine wpAnyH_take (i := 12) (v := ?v12n180) (by simp only [List.getElem?_toArray, List.getElem?_cons_succ, List.getElem?_cons_zero]; rfl) (by kernel_rfl) (by kernel_rfl) (by kernel_rfl) (fun _ _ _ h => False.elim h) (Or.inl ⟨by rfl, ?hy12n180⟩) (by assumption) ?rest12n180; (case hy12n180 => (intro w hSw; (try dsimp only at hSw); go_simp; (try with_reducible rfl))); (try simp only [Act.put, List.setIfInBounds_toArray, List.set_cons_zero, List.set_cons_succ]))
                          (refine wpAnyH_take (i := 13) (v := ?v13n181) (by simp only [List.getElem?_toArray, List.getElem?_cons_succ, List.getElem?_cons_zero]; rfl) (by kernel_rfl) (by kernel_rfl) (by kernel_rfl) (fun _ _ _ h => False.elim h) (Or.inl ⟨by rfl, ?hy13n181⟩) (by assumption) ?rest13n181; (case hy13n181 => (intro w hSw; (try dsimp only at hSw); go_simp; (try with_reducible rfl))); (try simp only [Act.put, List.setIfInBounds_toArray, List.set_cons_zero, List.set_cons_succ]))
                          (refine wpAnyH_take (i := 14) (v := ?v14n182) (by simp only [List.getElem?_toArray, List.getElem?_cons_succ, List.getElem?_cons_zero]; rfl) (by kernel_rfl) (by kernel_rfl) (by kernel_rfl) (fun _ _ _ h => False.elim h) (Or.inl ⟨by rfl, ?hy14n182⟩) (by assumption) ?rest14n182; (case hy14n182 => (intro w hSw; (try dsimp only at hSw); go_simp; (try with_reducible rfl))); (try simp only [Act.put, List.setIfInBounds_toArray, List.set_cons_zero, List.set_cons_succ]))
                          (refine wpAnyH_take (i := 15) (v := ?v15n183) (by simp only [List.getElem?_toArray, List.getElem?_cons_succ, List.getElem?_cons_zero]; rfl) (by kernel_rfl) (by kernel_rfl) (by kernel_rfl) (fun _ _ _ h => False.elim h) (Or.inl ⟨by rfl, ?hy15n183⟩) (by assumption) ?rest15n183; (case hy15n183 => (intro w hSw; (try dsimp only at hSw); go_simp; (try with_reducible rfl))); (try simp only [Act.put, List.setIfInBounds_toArray, List.set_cons_zero, List.set_cons_succ]))
                          (refine wpAnyH_take (i := 16) (v := ?v16n184) (by simp only [List.getElem?_toArray, List.getElem?_cons_succ, List.getElem?_cons_zero]; rfl) (by kernel_rfl) (by kernel_rfl) (by kernel_rfl) (fun _ _ _ h => False.elim h) (Or.inl ⟨by rfl, ?hy16n184⟩) (by assumption) ?rest16n184; (case hy16n184 => (intro w hSw; (try dsimp only at hSw); go_simp; (try with_reducible rfl))); (try simp only [Act.put, List.setIfInBounds_toArray, List.set_cons_zero, List.set_cons_succ]))
                          (refine wpAnyH_take (i := 17) (v := ?v17n185) (by simp only [List.getElem?_toArray, List.getElem?_cons_succ, List.getElem?_cons_zero]; rfl) (by kernel_rfl) (by kernel_rfl) (by kernel_rfl) (fun _ _ _ h => False.elim h) (Or.inl ⟨by rfl, ?hy17n185⟩) (by assumption) ?rest17n185; (case hy17n185 => (intro w hSw; (try dsimp only at hSw); go_simp; (try with_reducible rfl))); (try simp only [Act.put, List.setIfInBounds_toArray, List.set_cons_zero, List.set_cons_succ]))
                          (refine wpAnyH_take (i := 18) (v := ?v18n186) (by simp only [List.getElem?_toArray, List.getElem?_cons_succ, List.getElem?_cons_zero]; rfl) (by kernel_rfl) (by kernel_rfl) (by kernel_rfl) (fun _ _ _ h => False.elim h) (Or.inl ⟨by rfl, ?hy18n186⟩) (by assumption) ?rest18n186; (case hy18n186 => (intro w hSw; (try dsimp only at hSw); go_simp; (try with_reducible rfl))); (try simp only [Act.put, List.setIfInBounds_toArray, List.set_cons_zero, List.set_cons_succ]))
                          (refine wpAnyH_take (i := 19) (v := undef) (by simp only [List.getElem?_toArray, List.getElem?_cons_succ, List.getElem?_cons_zero]; rfl) (by kernel_rfl) (by kernel_rfl) (by kernel_rfl) (fun _ _ _ h => False.elim h) (Or.inr ⟨by rfl, rfl⟩) (by assumption) ?rest19s342; (try simp only [Act.put, List.setIfInBounds_toArray, List.set_cons_zero, List.set_cons_succ]))
                          (refine wpAnyH_take (i := 20) (v := undef) (by simp only [List.getElem?_toArray, List.getElem?_cons_succ, List.getElem?_cons_zero]; rfl) (by kernel_rfl) (by kernel_rfl) (by kernel_rfl) (fun _ _ _ h => False.elim h) (Or.inr ⟨by rfl, rfl⟩) (by assumption) ?rest20s343; (try simp only [Act.put, List.setIfInBounds_toArray, List.set_cons_zero, List.set_cons_succ]))
                          (refine wpAnyH_take (i := 21) (v := undef) (by simp only [List.getElem?_toArray, List.getElem?_cons_succ, List.getElem?_cons_zero]; rfl) (by kernel_rfl) (by kernel_rfl) (by kernel_rfl) (fun _ _ _ h => False.elim h) (Or.inr ⟨by rfl, rfl⟩) (by assumption) ?rest21s344; (try simp only [Act.put, List.setIfInBounds_toArray, List.set_cons_zero, List.set_cons_succ]))
                          (refine wpAnyH_take (i := 22) (v := undef) (by simp only [List.getElem?_toArray, List.getElem?_cons_succ, List.getElem?_cons_zero]; rfl) (by kernel_rfl) (by kernel_rfl) (by kernel_rfl) (fun _ _ _ h => False.elim h) (Or.inr ⟨by rfl, rfl⟩) (by assumption) ?rest22s345; (try simp only [Act.put, List.setIfInBounds_toArray, List.set_cons_zero, List.set_cons_succ]))
                          (refine wpAnyH_take (i := 23) (v := undef) (by simp only [List.getElem?_toArray, List.getElem?_cons_succ, List.getElem?_cons_zero]; rfl) (by kernel_rfl) (by kernel_rfl) (by kernel_rfl) (fun _ _ _ h => False.elim h) (Or.inr ⟨by rfl, rfl⟩) (by assumption) ?rest23s346; (try simp only [Act.put, List.setIfInBounds_toArray, List.set_cons_zero, List.set_cons_succ]))
                          (refine wpAnyH_take (i := 24) (v := undef) (by simp only [List.getElem?_toArray, List.getElem?_cons_succ, List.getElem?_cons_zero]; rfl) (by kernel_rfl) (by kernel_rfl) (by kernel_rfl) (fun _ _ _ h => False.elim h) (Or.inr ⟨by rfl, rfl⟩) (by assumption) ?rest24s347; (try simp only [Act.put, List.setIfInBounds_toArray, List.set_cons_zero, List.set_cons_succ]))
                          (refine wpAnyH_take (i := 25) (v := undef) (by simp only [List.getElem?_toArray, List.getElem?_cons_succ, List.getElem?_cons_zero]; rfl) (by kernel_rfl) (by kernel_rfl) (by kernel_rfl) (fun _ _ _ h => False.elim h) (Or.inr ⟨by rfl, rfl⟩) (by assumption) ?rest25s348; (try simp only [Act.put, List.setIfInBounds_toArray, List.set_cons_zero, List.set_cons_succ]))
                          (refine wpAnyH_take (i := 26) (v := ?v26n187) (by simp only [List.getElem?_toArray, List.getElem?_cons_succ, List.getElem?_cons_zero]; rfl) (by kernel_rfl) (by kernel_rfl) (by kernel_rfl) (fun _ _ _ h => False.elim h) (Or.inl ⟨by rfl, ?hy26n187⟩) (by assumption) ?rest26n187; (case hy26n187 => (intro w hSw; (try dsimp only at hSw); go_simp; (try with_reducible rfl))); (try simp only [Act.put, List.setIfInBounds_toArray, List.set_cons_zero, List.set_cons_succ]))
                          (refine wpAnyH_take (i := 27) (v := ?v27n188) (by simp only [List.getElem?_toArray, List.getElem?_cons_succ, List.getElem?_cons_zero]; rfl) (by kernel_rfl) (by kernel_rfl) (by kernel_rfl) (fun _ _ _ h => False.elim h) (Or.inl ⟨by rfl, ?hy27n188⟩) (by assumption) ?rest27n188; (case hy27n188 => (intro w hSw; (try dsimp only at hSw); go_simp; (try with_reducible rfl))); (try simp only [Act.put, List.setIfInBounds_toArray, List.set_cons_zero, List.set_cons_succ]))
                          (refine wpAnyH_take (i := 28) (v := ?v28n189) (by simp only [List.getElem?_toArray, List.getElem?_cons_succ, List.getElem?_cons_zero]; rfl) (by kernel_rfl) (by kernel_rfl) (by kernel_rfl) (fun _ _ _ h => False.elim h) (Or.inl ⟨by rfl, ?hy28n189⟩) (by assumption) ?rest28n189; (case hy28n189 => (intro w hSw; (try dsimp only at hSw); go_simp; (try with_reducible rfl))); (try simp only [Act.put, List.setIfInBounds_toArray, List.set_cons_zero, List.set_cons_succ]))
                          refine wpAnyH_done (by kernel_rfl) ?_ _
                          refine NoPanic.normal ?_
                          clear hHeld
                          have X8 := HPb.out _ n2
                          clear n2 HSk HPb
                          have HX8 := Lib.hid X8
                          clear X8
                          go_wp2_with fail
                          go_meet
                          case rel => first | exact ⟨by first | rfl | simp, cy, HX8.out, rfl, by have := HCm.out; omega⟩ | ((repeat apply Exists.intro); refine ⟨?r, ?f⟩; (case f => (and_intros <;> rfl)); exact ⟨by first | rfl | simp, cy, HX8.out, rfl, by have := HCm.out; omega⟩)
                        · have hz : (if 0 ≤ nn then cy.all.getD nn.toNat 0 else 0) = 0 := by
                            split
                            · rename_i h1
                              rw [List.getD_eq_getElem?_getD, List.getElem?_eq_none (by omega)]
                              rfl
                            · rfl
                          rw [hz, if_neg hin] at hpc
                          have hnm := fun W (hb : Below W7.heap.size W7 W) => (hpb W hb).num E HSz'.out (k := 1) (by decide) (by decide)
                          obtain ⟨qe, hqe⟩ := ee_some E (show (1 : Int) ≠ 0 by decide)
                          rw [hqe] at hpc hnm
                          obtain ⟨L, hL⟩ : ∃ L, cy.all.length = L := ⟨_, rfl⟩
                          rw [hL] at hmc hlc hin
                          have HPc := Lib.hid hpc
                          have HNm := Lib.hid hnm
                          have HSk := Lib.hid (show ∀ W, Below W7.heap.size W7 W → W.cell? ⟨wr.heap.size, 1, none⟩ = some (.int .i64 nn) ∧ W.cell? ⟨u, 2, none⟩ = some (.slice amo L cmo) from fun W hb => ⟨(HKk.out W nv (hpb W hb)).2.2.2.2.1, hmc W hb⟩)
                          have HPb := Lib.hid hpb
                          clear hpc hnm hml hpb hrm hrmd hmc m2 hL hqe hz s0 s1 s2
                          go_wp2_with fail
                          with_reducible refine HPc.out.mono ?_
                          rintro e w8 ⟨rfl, hb8⟩
                          have n1 : Below W7.heap.size W7 w8.drew := hb8.drew
                          clear hb8 HPc a0 a1 a2
                          by_cases hn0 : 0 ≤ nn
                          · have hd1 : decide ((0 : Int) ≤ nn) = true := decide_eq_true hn0
                            have hd2 : decide (nn < (L : Int)) = false := decide_eq_false (by omega)
                            go_wp2_with fail
                            refine wp_region_noPanic ?_
                            refine wp_region_held_drew (S := fun W => W.cell? ⟨wr.heap.size, 1, none⟩ = some (.int .i64 nn) ∧ W.cell? ⟨u, 2, none⟩ = some (.slice amo L cmo)) (by kernel_rfl) (HSk.out _ n1) (fun hHeld => ?_)
                            (refine wpAnyH_take (i := 0) (v := ?v0n190) (by simp only [List.getElem?_toArray, List.getElem?_cons_succ, List.getElem?_cons_zero]; rfl) (by kernel_rfl) (by kernel_rfl) (by kernel_rfl) (fun _ _ _ h => False.elim h) (Or.inl ⟨by rfl, ?hy0n190⟩) (by assumption) ?rest0n190; (case hy0n190 => (intro w hSw; (try dsimp only at hSw); go_simp; (try with_reducible rfl))); (try simp only [Act.put, List.setIfInBounds_toArray, List.set_cons_zero, List.set_cons_succ]))
                            (refine wpAnyH_take (i := 1) (v := ?v1n191) (by simp only [List.getElem?_toArray, List.getElem?_cons_succ, List.getElem?_cons_zero]; rfl) (by kernel_rfl) (by kernel_rfl) (by kernel_rfl) (fun _ _ _ h => False.elim h) (Or.inl ⟨by rfl, ?hy1n191⟩) (by assumption) ?rest1n191; (case hy1n191 => (intro w hSw; (try dsimp only at hSw); go_simp; (try with_reducible rfl))); (try simp only [Act.put, List.setIfInBounds_toArray, List.set_cons_zero, List.set_cons_succ]))
                            (refine wpAnyH_take (i := 2) (v := ?v2n192) (by simp only [List.getElem?_toArray, List.getElem?_cons_succ, List.getElem?_cons_zero]; rfl) (by kernel_rfl) (by kernel_rfl) (by kernel_rfl) (fun _ _ _ h => False.elim h) (Or.inl ⟨by rfl, ?hy2n192⟩) (by assumption) ?rest2n192; (case hy2n192 => (intro w hSw; (try dsimp only at hSw); go_simp; (try with_reducible rfl))); (try simp only [Act.put, List.setIfInBounds_toArray, List.set_cons_zero, List.set_cons_succ]))
                            (refine wpAnyH_take (i := 3) (v := ?v3n193) (by simp only [List.getElem?_toArray, List.getElem?_cons_succ, List.getElem?_cons_zero]; rfl) (by kernel_rfl) (by kernel_rfl) (by kernel_rfl) (fun _ _ _ h => False.elim h) (Or.inl ⟨by rfl, ?hy3n193⟩) (by assumption) ?rest3n193; (case hy3n193 => (intro w hSw; (try dsimp only at hSw); go_simp; (try with_reducible rfl))); (try simp only [Act.put, List.setIfInBounds_toArray, List.set_cons_zero, List.set_cons_succ]))
                            (refine wpAnyH_take (i := 4) (v := ?v4n194) (by simp only [List.getElem?_toArray, List.getElem?_cons_succ, List.getElem?_cons_zero]; rfl) (by kernel_rfl) (by kernel_rfl) (by kernel_rfl) (fun _ _ _ h => False.elim h) (Or.inl ⟨by rfl, ?hy4n194⟩) (by assumption) ?rest4n194; (case hy4n194 => (intro w hSw; (try dsimp only at hSw); go_simp; (try with_reducible rfl))); (try simp only [Act.put, List.setIfInBounds_toArray, List.set_cons_zero, List.set_cons_succ]))
                            (refine wpAnyH_take (i := 5) (v := ?v5n195) (by simp only [List.getElem?_toArray, List.getElem?_cons_succ, List.getElem?_cons_zero]; rfl) (by kernel_rfl) (by kernel_rfl) (by kernel_rfl) (fun _ _ _ h => False.elim h) (Or.inl ⟨by rfl, ?hy5n195⟩) (by assumption) ?rest5n195; (case hy5n195 => (intro w hSw; (try dsimp only at hSw); go_simp; (try with_reducible rfl))); (try simp only [Act.put, List.setIfInBounds_toArray, List.set_cons_zero, List.set_cons_succ]))
                            (refine wpAnyH_take (i := 6) (v := ?v6n196) (by simp only [List.getElem?_toArray, List.getElem?_cons_succ, List.getElem?_cons_zero]; rfl) (by kernel_rfl) (by kernel_rfl) (by kernel_rfl) (fun _ _ _ h => False.elim h) (Or.inl ⟨by rfl, ?hy6n196⟩) (by assumption) ?rest6n196; (case hy6n196 => (intro w hSw; (try dsimp only at hSw); go_simp; (try with_reducible rfl))); (try simp only [Act.put, List.setIfInBounds_toArray, List.set_cons_zero, List.set_cons_succ]))
                            (refine wpAnyH_take (i := 7) (v := ?v7n197) (by simp only [List.getElem?_toArray, List.getElem?_cons_succ, List.getElem?_cons_zero]; rfl) (by kernel_rfl) (by kernel_rfl) (by kernel_rfl) (fun _ _ _ h => False.elim h) (Or.inl ⟨by rfl, ?hy7n197⟩) (by assumption) ?rest7n197; (case hy7n197 => (intro w hSw; (try dsimp only at hSw); go_simp; (try with_reducible rfl))); (try simp only [Act.put, List.setIfInBounds_toArray, List.set_cons_zero, List.set_cons_succ]))
                            (refine wpAnyH_take (i := 8) (v := ?v8n198) (by simp only [List.getElem?_toArray, List.getElem?_cons_succ, List.getElem?_cons_zero]; rfl) (by kernel_rfl) (by kernel_rfl) (by kernel_rfl) (fun _ _ _ h => False.elim h) (Or.inl ⟨by rfl, ?hy8n198⟩) (by assumption) ?rest8n198; (case hy8n198 => (intro w hSw; (try dsimp only at hSw); go_simp; (try with_reducible rfl))); (try simp only [Act.put, List.setIfInBounds_toArray, List.set_cons_zero, List.set_cons_succ]))
                            (refine wpAnyH_take (i := 9) (v := ?v9n199) (by simp only [List.getElem?_toArray, List.getElem?_cons_succ, List.getElem?_cons_zero]; rfl) (by kernel_rfl) (by kernel_rfl) (by kernel_rfl) (fun _ _ _ h => False.elim h) (Or.inl ⟨by rfl, ?hy9n199⟩) (by assumption) ?rest9n199; (case hy9n199 => (intro w hSw; (try dsimp only at hSw); go_simp; (try with_reducible rfl))); (try simp only [Act.put, List.setIfInBounds_toArray, List.set_cons_zero, List.set_cons_succ]))
                            (refine wpAnyH_take (i := 10) (v := ?v10n200) (by simp only [List.getElem?_toArray, List.getElem?_cons_succ, List.getElem?_cons_zero]; rfl) (by kernel_rfl) (by kernel_rfl) (by kernel_rfl) (fun _ _ _ h => False.elim h) (Or.inl ⟨by rfl, ?hy10n200⟩) (by assumption) ?rest10n200; (case hy10n200 => (intro w hSw; (try dsimp only at hSw); go_simp; (try with_reducible rfl))); (try simp only [Act.put, List.setIfInBounds_toArray, List.set_cons_zero, List.set_cons_succ]))
                            (refine wpAnyH_take (i := 11) (v := ?v11n201) (by simp only [List.getElem?_toArray, List.getElem?_cons_succ, List.getElem?_cons_zero]; rfl) (by kernel_rfl) (by kernel_rfl) (by kernel_rfl) (fun _ _ _ h => False.elim h) (Or.inl ⟨by rfl, ?hy11n201⟩) (by assumption) ?rest11n201; (case hy11n201 => (intro w hSw; (try dsimp only at hSw); go_simp; (try with_reducible rfl))); (try simp only [Act.put, List.setIfInBounds_toArray, List.set_cons_zero, List.set_cons_succ]))
                            (refine wpAnyH_take (i := 12) (v := ?v12n202) (by simp only [List.getElem?_toArray, List.getElem?_cons_succ, List.getElem?_cons_zero]; rfl) (by kernel_rfl) (by kernel_rfl) (by kernel_rfl) (fun _ _ _ h => False.elim h) (Or.inl ⟨by rfl, ?hy12n202⟩) (by assumption) ?rest12n202; (case hy12n202 => (intro w hSw; (try dsimp only at hSw); go_simp; (try with_reducible rfl))); (try simp only [Act.put, List.setIfInBounds_toArray, List.set_cons_zero, List.set_cons_succ]))
                            (refine wpAnyH_take (i := 13) (v := ?v13n203) (by simp only [List.getElem?_toArray, List.getElem?_cons_succ, List.getElem?_cons_zero]; rfl) (by kernel_rfl) (by kernel_rfl) (by kernel_rfl) (fun _ _ _ h => False.elim h) (Or.inl ⟨by rfl, ?hy13n203⟩) (by assumption) ?rest13n203; (case hy13n203 => (intro w hSw; (try dsimp only at hSw); go_simp; (try with_reducible rfl))); (try simp only [Act.put, List.setIfInBounds_toArray, List.set_cons_zero, List.set_cons_succ]))
                            refine wpAnyH_done (by kernel_rfl) ?_ _
                            refine NoPanic.normal ?_
                            clear hHeld
                            have n2 : Below W7.heap.size W7 w8.drew.drew := n1.drew
                            clear n1
                            go_wp2_with fail
                            refine wp_region_noPanic ?_
                            refine wp_region_held_drew (S := fun _ => True) (by kernel_rfl) (trivial) (fun hHeld => ?_)
                            (refine wpAnyH_take (i := 0) (v := ?v0n204) (by simp only [List.getElem?_toArray, List.getElem?_cons_succ, List.getElem?_cons_zero]; rfl) (by kernel_rfl) (by kernel_rfl) (by kernel_rfl) (fun _ _ _ h => False.elim h) (Or.inl ⟨by rfl, ?hy0n204⟩) (by assumption) ?rest0n204; (case hy0n204 => (intro w hSw; (try dsimp only at hSw); go_simp; (try with_reducible rfl))); (try simp only [Act.put, List.setIfInBounds_toArray, List.set_cons_zero, List.set_cons_succ]))
                            (refine wpAnyH_take (i := 1) (v := ?v1n205) (by simp only [List.getElem?_toArray, List.getElem?_cons_succ, List.getElem?_cons_zero]; rfl) (by kernel_rfl) (by kernel_rfl) (by kernel_rfl) (fun _ _ _ h => False.elim h) (Or.inl ⟨by rfl, ?hy1n205⟩) (by assumption) ?rest1n205; (case hy1n205 => (intro w hSw; (try dsimp only at hSw); go_simp; (try with_reducible rfl))); (try simp only [Act.put, List.setIfInBounds_toArray, List.set_cons_zero, List.set_cons_succ]))
                            (refine wpAnyH_take (i := 2) (v := ?v2n206) (by simp only [List.getElem?_toArray, List.getElem?_cons_succ, List.getElem?_cons_zero]; rfl) (by kernel_rfl) (by kernel_rfl) (by kernel_rfl) (fun _ _ _ h => False.elim h) (Or.inl ⟨by rfl, ?hy2n206⟩) (by assumption) ?rest2n206; (case hy2n206 => (intro w hSw; (try dsimp only at hSw); go_simp; (try with_reducible rfl))); (try simp only [Act.put, List.setIfInBounds_toArray, List.set_cons_zero, List.set_cons_succ]))
                            (refine wpAnyH_take (i := 3) (v := ?v3n207) (by simp only [List.getElem?_toArray, List.getElem?_cons_succ, List.getElem?_cons_zero]; rfl) (by kernel_rfl) (by kernel_rfl) (by kernel_rfl) (fun _ _ _ h => False.elim h) (Or.inl ⟨by rfl, ?hy3n207⟩) (by assumption) ?rest3n207; (case hy3n207 => (intro w hSw; (try dsimp only at hSw); go_simp; (try with_reducible rfl))); (try simp only [Act.put, List.setIfInBounds_toArray, List.set_cons_zero, List.set_cons_succ]))
                            (refine wpAnyH_take (i := 4) (v := ?v4n208) (by simp only [List.getElem?_toArray, List.getElem?_cons_succ, List.getElem?_cons_zero]; rfl) (by kernel_rfl) (by kernel_rfl) (by kernel_rfl) (fun _ _ _ h => False.elim h) (Or.inl ⟨by rfl, ?hy4n208⟩) (by assumption) ?rest4n208; (case hy4n208 => (intro w hSw; (try dsimp only at hSw); go_simp; (try with_reducible rfl))); (try simp only [Act.put, List.setIfInBounds_toArray, List.set_cons_zero, List.set_cons_succ]))
                            (refine wpAnyH_take (i := 5) (v := ?v5n209) (by simp only [List.getElem?_toArray, List.getElem?_cons_succ, List.getElem?_cons_zero]; rfl) (by kernel_rfl) (by kernel_rfl) (by kernel_rfl) (fun _ _ _ h => False.elim h) (Or.inl ⟨by rfl, ?hy5n209⟩) (by assumption) ?rest5n209; (case hy5n209 => (intro w hSw; (try dsimp only at hSw); go_simp; (try with_reducible rfl))); (try simp only [Act.put, List.setIfInBounds_toArray, List.set_cons_zero, List.set_cons_succ]))
                            (refine wpAnyH_take (i := 6) (v := ?v6n210) (by simp only [List.getElem?_toArray, List.getElem?_cons_succ, List.getElem?_cons_zero]; rfl) (by kernel_rfl) (by kernel_rfl) (by kernel_rfl) (fun _ _ _ h => False.elim h) (Or.inl ⟨by rfl, ?hy6n210⟩) (by assumption) ?rest6n210; (case hy6n210 => (intro w hSw; (try dsimp only at hSw); go_simp; (try with_reducible rfl))); (try simp only [Act.put, List.setIfInBounds_toArray, List.set_cons_zero, List.set_cons_succ]))
                            (refine wpAnyH_take (i := 7) (v := undef) (by simp only [List.getElem?_toArray, List.getElem?_cons_succ, List.getElem?_cons_zero]; rfl) (by kernel_rfl) (by kernel_rfl) (by kernel_rfl) (fun _ _ _ h => False.elim h) (Or.inr ⟨by rfl, rfl⟩) (by assumption) ?rest7s349; (try simp only [Act.put, List.setIfInBounds_toArray, List.set_cons_zero, List.set_cons_succ]))
                            (refine wpAnyH_take (i := 8) (v := undef) (by simp only [List.getElem?_toArray, List.getElem?_cons_succ, List.getElem?_cons_zero]; rfl) (by kernel_rfl) (by kernel_rfl) (by kernel_rfl) (fun _ _ _ h => False.elim h) (Or.inr ⟨by rfl, rfl⟩) (by assumption) ?rest8s350; (try simp only [Act.put, List.setIfInBounds_toArray, List.set_cons_zero, List.set_cons_succ]))
                            (refine wpAnyH_take (i := 9) (v := undef) (by simp only [List.getElem?_toArray, List.getElem?_cons_succ, List.getElem?_cons_zero]; rfl) (by kernel_rfl) (by kernel_rfl) (by kernel_rfl) (fun _ _ _ h => False.elim h) (Or.inr ⟨by rfl, rfl⟩) (by assumption) ?rest9s351; (try simp only [Act.put, List.setIfInBounds_toArray, List.set_cons_zero, List.set_cons_succ]))
                            (refine wpAnyH_take (i := 10) (v := undef) (by simp only [List.getElem?_toArray, List.getElem?_cons_succ, List.getElem?_cons_zero]; rfl) (by kernel_rfl) (by kernel_rfl) (by kernel_rfl) (fun _ _ _ h => False.elim h) (Or.inr ⟨by rfl, rfl⟩) (by assumption) ?rest10s352; (try simp only [Act.put, List.setIfInBounds_toArray, List.set_cons_zero, List.set_cons_succ]))
                            (refine wpAnyH_take (i := 11) (v := undef) (by simp only [List.getElem?_toArray, List.getElem?_cons_succ, List.getElem?_cons_zero]; rfl) (by kernel_rfl) (by kernel_rfl) (by kernel_rfl) (fun _ _ _ h => False.elim h) (Or.inr ⟨by rfl, rfl⟩) (by assumption) ?rest11s353; (try simp only [Act.put, List.setIfInBounds_toArray, List.set_cons_zero, List.set_cons_succ]))
                            (refine wpAnyH_take (i := 12) (v := undef) (by simp only [List.getElem?_toArray, List.getElem?_cons_succ, List.getElem?_cons_zero]; rfl) (by kernel_rfl) (by kernel_rfl) (by kernel_rfl) (fun _ _ _ h => False.elim h) (Or.inr ⟨by rfl, rfl⟩) (by assumption) ?rest12s354; (try simp only [Act.put, List.setIfInBounds_toArray, List.set_cons_zero, List.set_cons_succ]))
                            (refine wpAnyH_take (i := 13) (v := undef) (by simp only [List.getElem?_toArray, List.getElem?_cons_succ, List.getElem?_cons_zero]; rfl) (by kernel_rfl) (by kernel_rfl) (by kernel_rfl) (fun _ _ _ h => False.elim h) (Or.inr ⟨by rfl, rfl⟩) (by assumption) ?rest13s355; (try simp only [Act.put, List.setIfInBounds_toArray, List.set_cons_zero, List.set_cons_succ]))
                            (refine wpAnyH_take (i := 14) (v := undef) (by simp only [List.getElem?_toArray, List.getElem?_cons_succ, List.getElem?_cons_zero]; rfl) (by kernel_rfl) (by kernel_rfl) (by kernel_rfl) (fun _ _ _ h => False.elim h) (Or.inr ⟨by rfl, rfl⟩) (by assumption) ?rest14s356; (try simp only [Act.put, List.setIfInBounds_toArray, List.set_cons_zero, List.set_cons_succ]))
                            (refine wpAnyH_take (i := 15) (v := undef) (by simp only [List.getElem?_toArray, List.getElem?_cons_succ, List.getElem?_cons_zero]; rfl) (by kernel_rfl) (by kernel_rfl) (by kernel_rfl) (fun _ _ _ h => False.elim h) (Or.inr ⟨by rfl, rfl⟩) (by assumption) ?rest15s357; (try simp only [Act.put, List.setIfInBounds_toArray, List.set_cons_zero, List.set_cons_succ]))
                            (refine wpAnyH_take (i := 16) (v := undef) (by simp only [List.getElem?_toArray, List.getElem?_cons_succ, List.getElem?_cons_zero]; rfl) (by kernel_rfl) (by kernel_rfl) (by kernel_rfl) (fun _ _ _ h => False.elim h) (Or.inr ⟨by rfl, rfl⟩) (by assumption) ?rest16s358; (try simp only [Act.put, List.setIfInBounds_toArray, List.set_cons_zero, List.set_cons_succ]))
                            (refine wpAnyH_take (i := 17) (v := ?v17n211) (by simp only [List.getElem?_toArray, List.getElem?_cons_succ, List.getElem?_cons_zero]; rfl) (by kernel_rfl) (by kernel_rfl) (by kernel_rfl) (fun _ _ _ h => False.elim h) (Or.inl ⟨by rfl, ?hy17n211⟩) (by assumption) ?rest17n211; (case hy17n211 => (intro w hSw; (try dsimp only at hSw); go_simp; (try with_reducible rfl))); (try simp only [Act.put, List.setIfInBounds_toArray, List.set_cons_zero, List.set_cons_succ]))
                            (refine wpAnyH_take (i := 18) (v := ?v18n212) (by simp only [List.getElem?_toArray, List.getElem?_cons_succ, List.getElem?_cons_zero]; rfl) (by kernel_rfl) (by kernel_rfl) (by kernel_rfl) (fun _ _ _ h => False.elim h) (Or.inl ⟨by rfl, ?hy18n212⟩) (by assumption) ?rest18n212; (case hy18n212 => (intro w hSw; (try dsimp only at hSw); go_simp; (try with_reducible rfl))); (try simp only [Act.put, List.setIfInBounds_toArray, List.set_cons_zero, List.set_cons_succ]))
                            (refine wpAnyH_take (i := 19) (v := ?v19n213) (by simp only [List.getElem?_toArray, List.getElem?_cons_succ, List.getElem?_cons_zero]; rfl) (by kernel_rfl) (by kernel_rfl) (by kernel_rfl) (fun _ _ _ h => False.elim h) (Or.inl ⟨by rfl, ?hy19n213⟩) (by assumption) ?rest19n213; (case hy19n213 => (intro w hSw; (try dsimp only at hSw); go_simp; (try with_reducible rfl))); (try simp only [Act.put, List.setIfInBounds_toArray, List.set_cons_zero, List.set_cons_succ]))
                            (refine wpAnyH_take (i := 20) (v := ?v20n214) (by simp only [List.getElem?_toArray, List.getElem?_cons_succ, List.getElem?_cons_zero]; rfl) (by kernel_rfl) (by kernel_rfl) (by kernel_rfl) (fun _ _ _ h => False.elim h) (Or.inl ⟨by rfl, ?hy20n214⟩) (by assumption) ?rest20n214; (case hy20n214 => (intro w hSw; (try dsimp only at hSw); go_simp; (try with_reducible rfl))); (try simp only [Act.put, List.setIfInBounds_toArray, List.set_cons_zero, List.set_cons_succ]))
                            (refine wpAnyH_take (i := 21) (v := ?v21n215) (by simp only [List.getElem?_toArray, List.getElem?_cons_succ, List.getElem?_cons_zero]; rfl) (by kernel_rfl) (by kernel_rfl) (by kernel_rfl) (fun _ _ _ h => False.elim h) (Or.inl ⟨by rfl, ?hy21n215⟩) (by assumption) ?rest21n215; (case hy21n215 => (intro w hSw; (try dsimp only at hSw); go_simp; (try with_reducible rfl))); (try simp only [Act.put, List.setIfInBounds_toArray, List.set_cons_zero, List.set_cons_succ]))
                            (refine wpAnyH_take (i := 22) (v := ?v22n216) (by simp only [List.getElem?_toArray, List.getElem?_cons_succ, List.getElem?_cons_zero]; rfl) (by kernel_rfl) (by kernel_rfl) (by kernel_rfl) (fun _ _ _ h => False.elim h) (Or.inl ⟨by rfl, ?hy22n216⟩) (by assumption) ?rest22n216; (case hy22n216 => (intro w hSw; (try dsimp only at hSw); go_simp; (try with_reducible rfl))); (try simp only [Act.put, List.setIfInBounds_toArray, List.set_cons_zero, List.set_cons_succ]))
                            (refine wpAnyH_ready (rs := [23]) (by kernel_rfl) (by simp) ?_; refine AllReadyH.cons (o := _) (by simp only [List.getElem?_toArray, List.getElem?_cons_succ, List.getElem?_cons_zero]; rfl) (fun K hK => ?_) AllReadyH.nil; go_simp; ((with_reducible refine (HNm.out _ n2).mono ?_); rintro e w9 ⟨rfl, hP9⟩); refine hK.out _ _ (by trivial) (fun hHeld => ?_); clear hK K; (try simp only [Act.put, List.setIfInBounds_toArray, List.set_cons_zero, List.set_cons_succ]))
                            (refine wpAnyH_take (i := 24) (v := ?v24n217) (by simp only [List.getElem?_toArray, List.getElem?_cons_succ, List.getElem?_cons_zero]; rfl) (by kernel_rfl) (by kernel_rfl) (by kernel_rfl) (fun _ _ _ h => False.elim h) (Or.inl ⟨by rfl, ?hy24n217⟩) (by assumption) ?rest24n217; (case hy24n217 => (intro w hSw; (try dsimp only at hSw); go_simp; (try with_reducible rfl))); (try simp only [Act.put, List.setIfInBounds_toArray, List.set_cons_zero, List.set_cons_succ]))
                            (refine wpAnyH_take (i := 25) (v := ?v25n218) (by simp only [List.getElem?_toArray, List.getElem?_cons_succ, List.getElem?_cons_zero]; rfl) (by kernel_rfl) (by kernel_rfl) (by kernel_rfl) (fun _ _ _ h => False.elim h) (Or.inl ⟨by rfl, ?hy25n218⟩) (by assumption) ?rest25n218; (case hy25n218 => (intro w hSw; (try dsimp only at hSw); go_simp; (try with_reducible rfl))); (try simp only [Act.put, List.setIfInBounds_toArray, List.set_cons_zero, List.set_cons_succ]))
                            (refine wpAnyH_take (i := 26) (v := ?v26n219) (by simp only [List.getElem?_toArray, List.getElem?_cons_succ, List.getElem?_cons_zero]; rfl) (by kernel_rfl) (by kernel_rfl) (by kernel_rfl) (fun _ _ _ h => False.elim h) (Or.inl ⟨by rfl, ?hy26n219⟩) (by assumption) ?rest26n219; (case hy26n219 => (intro w hSw; (try dsimp only at hSw); go_simp; (try with_reducible rfl))); (try simp only [Act.put, List.setIfInBounds_toArray, List.set_cons_zero, List.set_cons_succ]))
                            (refine wpAnyH_take (i := 27) (v := ?v27n220) (by simp only [List.getElem?_toArray, List.getElem?_cons_succ, List.getElem?_cons_zero]; rfl) (by kernel_rfl) (by kernel_rfl) (by kernel_rfl) (fun _ _ _ h => False.elim h) (Or.inl ⟨by rfl, ?hy27n220⟩) (by assumption) ?rest27n220; (case hy27n220 => (intro w hSw; (try dsimp only at hSw); go_simp; (try with_reducible rfl))); (try simp only [Act.put, List.setIfInBounds_toArray, List.set_cons_zero, List.set_cons_succ]))
                            (refine wpAnyH_take (i := 28) (v := ?v28n221) (by simp only [List.getElem?_toArray, List.getElem?_cons_succ, List.getElem?_cons_zero]; rfl) (by kernel_rfl) (by kernel_rfl) (by kernel_rfl) (fun _ _ _ h => False.elim h) (Or.inl ⟨by rfl, ?hy28n221⟩) (by assumption) ?rest28n221; (case hy28n221 => (intro w hSw; (try dsimp only at hSw); go_simp; (try with_reducible rfl))); (try simp only [Act.put, List.setIfInBounds_toArray, List.set_cons_zero, List.set_cons_succ]))
                            refine wpAnyH_done (by kernel_rfl) ?_ _
                            refine NoPanic.normal ?_
                            clear hHeld
                            have X8 := hP9
                            clear n2 hP9 HSk HPb HNm
                            have HX8 := Lib.hid X8
                            clear X8
                            go_wp2_with fail
                            go_meet
                            case rel => first | exact ⟨by first | rfl | simp, cy, HX8.out, rfl, by have := HCm.out; omega⟩ | ((repeat apply Exists.intro); refine ⟨?r, ?f⟩; (case f => (and_intros <;> rfl)); exact ⟨by first | rfl | simp, cy, HX8.out, rfl, by have := HCm.out; omega⟩)
                          · have hd1 : decide ((0 : Int) ≤ nn) = false := decide_eq_false hn0
                            go_wp2_with fail
                            refine wp_region_noPanic ?_
                            refine wp_region_held_drew (S := fun W => W.cell? ⟨wr.heap.size, 1, none⟩ = some (.int .i64 nn) ∧ W.cell? ⟨u, 2, none⟩ = some (.slice amo L cmo)) (by kernel_rfl) (HSk.out _ n1) (fun hHeld => ?_)
                            (refine wpAnyH_take (i := 0) (v := ?v0n222) (by simp only [List.getElem?_toArray, List.getElem?_cons_succ, List.getElem?_cons_zero]; rfl) (by kernel_rfl) (by kernel_rfl) (by kernel_rfl) (fun _ _ _ h => False.elim h) (Or.inl ⟨by rfl, ?hy0n222⟩) (by assumption) ?rest0n222; (case hy0n222 => (intro w hSw; (try dsimp only at hSw); go_simp; (try with_reducible rfl))); (try simp only [Act.put, List.setIfInBounds_toArray, List.set_cons_zero, List.set_cons_succ]))
                            (refine wpAnyH_take (i := 1) (v := ?v1n223) (by simp only [List.getElem?_toArray, List.getElem?_cons_succ, List.getElem?_cons_zero]; rfl) (by kernel_rfl) (by kernel_rfl) (by kernel_rfl) (fun _ _ _ h => False.elim h) (Or.inl ⟨by rfl, ?hy1n223⟩) (by assumption) ?rest1n223; (case hy1n223 => (intro w hSw; (try dsimp only at hSw); go_simp; (try with_reducible rfl))); (try simp only [Act.put, List.setIfInBounds_toArray, List.set_cons_zero, List.set_cons_succ]))
                            (refine wpAnyH_take (i := 2) (v := ?v2n224) (by simp only [List.getElem?_toArray, List.getElem?_cons_succ, List.getElem?_cons_zero]; rfl) (by kernel_rfl) (by kernel_rfl) (by kernel_rfl) (fun _ _ _ h => False.elim h) (Or.inl ⟨by rfl, ?hy2n224⟩) (by assumption) ?rest2n224; (case hy2n224 => (intro w hSw; (try dsimp only at hSw); go_simp; (try with_reducible rfl))); (try simp only [Act.put, List.setIfInBounds_toArray, List.set_cons_zero, List.set_cons_succ]))
                            (refine wpAnyH_take (i := 3) (v := ?v3n225) (by simp only [List.getElem?_toArray, List.getElem?_cons_succ, List.getElem?_cons_zero]; rfl) (by kernel_rfl) (by kernel_rfl) (by kernel_rfl) (fun _ _ _ h => False.elim h) (Or.inl ⟨by rfl, ?hy3n225⟩) (by assumption) ?rest3n225; (case hy3n225 => (intro w hSw; (try dsimp only at hSw); go_simp; (try with_reducible rfl))); (try simp only [Act.put, List.setIfInBounds_toArray, List.set_cons_zero, List.set_cons_succ]))
                            (refine wpAnyH_take (i := 4) (v := undef) (by simp only [List.getElem?_toArray, List.getElem?_cons_succ, List.getElem?_cons_zero]; rfl) (by kernel_rfl) (by kernel_rfl) (by kernel_rfl) (fun _ _ _ h => False.elim h) (Or.inr ⟨by rfl, rfl⟩) (by assumption) ?rest4s359; (try simp only [Act.put, List.setIfInBounds_toArray, List.set_cons_zero, List.set_cons_succ]))
                            (refine wpAnyH_take (i := 5) (v := undef) (by simp only [List.getElem?_toArray, List.getElem?_cons_succ, List.getElem?_cons_zero]; rfl) (by kernel_rfl) (by kernel_rfl) (by kernel_rfl) (fun _ _ _ h => False.elim h) (Or.inr ⟨by rfl, rfl⟩) (by assumption) ?rest5s360; (try simp only [Act.put, List.setIfInBounds_toArray, List.set_cons_zero, List.set_cons_succ]))
                            (refine wpAnyH_take (i := 6) (v := undef) (by simp only [List.getElem?_toArray, List.getElem?_cons_succ, List.getElem?_cons_zero]; rfl) (by kernel_rfl) (by kernel_rfl) (by kernel_rfl) (fun _ _ _ h => False.elim h) (Or.inr ⟨by rfl, rfl⟩) (by assumption) ?rest6s361; (try simp only [Act.put, List.setIfInBounds_toArray, List.set_cons_zero, List.set_cons_succ]))
                            (refine wpAnyH_take (i := 7) (v := undef) (by simp only [List.getElem?_toArray, List.getElem?_cons_succ, List.getElem?_cons_zero]; rfl) (by kernel_rfl) (by kernel_rfl) (by kernel_rfl) (fun _ _ _ h => False.elim h) (Or.inr ⟨by rfl, rfl⟩) (by assumption) ?rest7s362; (try simp only [Act.put, List.setIfInBounds_toArray, List.set_cons_zero, List.set_cons_succ]))
                            (refine wpAnyH_take (i := 8) (v := undef) (by simp only [List.getElem?_toArray, List.getElem?_cons_succ, List.getElem?_cons_zero]; rfl) (by kernel_rfl) (by kernel_rfl) (by kernel_rfl) (fun _ _ _ h => False.elim h) (Or.inr ⟨by rfl, rfl⟩) (by assumption) ?rest8s363; (try simp only [Act.put, List.setIfInBounds_toArray, List.set_cons_zero, List.set_cons_succ]))
                            (refine wpAnyH_take (i := 9) (v := undef) (by simp only [List.getElem?_toArray, List.getElem?_cons_succ, List.getElem?_cons_zero]; rfl) (by kernel_rfl) (by kernel_rfl) (by kernel_rfl) (fun _ _ _ h => False.elim h) (Or.inr ⟨by rfl, rfl⟩) (by assumption) ?rest9s364; (try simp only [Act.put, List.setIfInBounds_toArray, List.set_cons_zero, List.set_cons_succ]))
                            (refine wpAnyH_take (i := 10) (v := undef) (by simp only [List.getElem?_toArray, List.getElem?_cons_succ, List.getElem?_cons_zero]; rfl) (by kernel_rfl) (by kernel_rfl) (by kernel_rfl) (fun _ _ _ h => False.elim h) (Or.inr ⟨by rfl, rfl⟩) (by assumption) ?rest10s365; (try simp only [Act.put, List.setIfInBounds_toArray, List.set_cons_zero, List.set_cons_succ]))
                            (refine wpAnyH_take (i := 11) (v := undef) (by simp only [List.getElem?_toArray, List.getElem?_cons_succ, List.getElem?_cons_zero]; rfl) (by kernel_rfl) (by kernel_rfl) (by kernel_rfl) (fun _ _ _ h => False.elim h) (Or.inr ⟨by rfl, rfl⟩) (by assumption) ?rest11s366; (try simp only [Act.put, List.setIfInBounds_toArray, List.set_cons_zero, List.set_cons_succ]))
                            (refine wpAnyH_take (i := 12) (v := ?v12n226) (by simp only [List.getElem?_toArray, List.getElem?_cons_succ, List.getElem?_cons_zero]; rfl) (by kernel_rfl) (by kernel_rfl) (by kernel_rfl) (fun _ _ _ h => False.elim h) (Or.inl ⟨by rfl, ?hy12n226⟩) (by assumption) ?rest12n226; (case hy12n226 => (intro w hSw; (try dsimp only at hSw); go_simp; (try with_reducible rfl))); (try simp only [Act.put, List.setIfInBounds_toArray, List.set_cons_zero, List.set_cons_succ]))
                            (refine wpAnyH_take (i := 13) (v := ?v13n227) (by simp only [List.getElem?_toArray, List.getElem?_cons_succ, List.getElem?_cons_zero]; rfl) (by kernel_rfl) (by kernel_rfl) (by kernel_rfl) (fun _ _ _ h => False.elim h) (Or.inl ⟨by rfl, ?hy13n227⟩) (by assumption) ?rest13n227; (case hy13n227 => (intro w hSw; (try dsimp only at hSw); go_simp; (try with_reducible rfl))); (try simp only [Act.put, List.setIfInBounds_toArray, List.set_cons_zero, List.set_cons_succ]))
                            refine wpAnyH_done (by kernel_rfl) ?_ _
                            refine NoPanic.normal ?_
                            clear hHeld
                            have n2 : Below W7.heap.size W7 w8.drew.drew := n1.drew
                            clear n1
                            go_wp2_with fail
                            refine wp_region_noPanic ?_
                            refine wp_region_held_drew (S := fun _ => True) (by kernel_rfl) (trivial) (fun hHeld => ?_)
                            (refine wpAnyH_take (i := 0) (v := ?v0n228) (by simp only [List.getElem?_toArray, List.getElem?_cons_succ, List.getElem?_cons_zero]; rfl) (by kernel_rfl) (by kernel_rfl) (by kernel_rfl) (fun _ _ _ h => False.elim h) (Or.inl ⟨by rfl, ?hy0n228⟩) (by assumption) ?rest0n228; (case hy0n228 => (intro w hSw; (try dsimp only at hSw); go_simp; (try with_reducible rfl))); (try simp only [Act.put, List.setIfInBounds_toArray, List.set_cons_zero, List.set_cons_succ]))
                            (refine wpAnyH_take (i := 1) (v := ?v1n229) (by simp only [List.getElem?_toArray, List.getElem?_cons_succ, List.getElem?_cons_zero]; rfl) (by kernel_rfl) (by kernel_rfl) (by kernel_rfl) (fun _ _ _ h => False.elim h) (Or.inl ⟨by rfl, ?hy1n229⟩) (by assumption) ?rest1n229; (case hy1n229 => (intro w hSw; (try dsimp only at hSw); go_simp; (try with_reducible rfl))); (try simp only [Act.put, List.setIfInBounds_toArray, List.set_cons_zero, List.set_cons_succ]))
                            (refine wpAnyH_take (i := 2) (v := ?v2n230) (by simp only [List.getElem?_toArray, List.getElem?_cons_succ, List.getElem?_cons_zero]; rfl) (by kernel_rfl) (by kernel_rfl) (by kernel_rfl) (fun _ _ _ h => False.elim h) (Or.inl ⟨by rfl, ?hy2n230⟩) (by assumption) ?rest2n230; (case hy2n230 => (intro w hSw; (try dsimp only at hSw); go_simp; (try with_reducible rfl))); (try simp only [Act.put, List.setIfInBounds_toArray, List.set_cons_zero, List.set_cons_succ]))
                            (refine wpAnyH_take (i := 3) (v := ?v3n231) (by simp only [List.getElem?_toArray, List.getElem?_cons_succ, List.getElem?_cons_zero]; rfl) (by kernel_rfl) (by kernel_rfl) (by kernel_rfl) (fun _ _ _ h => False.elim h) (Or.inl ⟨by rfl, ?hy3n231⟩) (by assumption) ?rest3n231; (case hy3n231 => (intro w hSw; (try dsimp only at hSw); go_simp; (try with_reducible rfl))); (try simp only [Act.put, List.setIfInBounds_toArray, List.set_cons_zero, List.set_cons_succ]))
                            (refine wpAnyH_take (i := 4) (v := ?v4n232) (by simp only [List.getElem?_toArray, List.getElem?_cons_succ, List.getElem?_cons_zero]; rfl) (by kernel_rfl) (by kernel_rfl) (by kernel_rfl) (fun _ _ _ h => False.elim h) (Or.inl ⟨by rfl, ?hy4n232⟩) (by assumption) ?rest4n232; (case hy4n232 => (intro w hSw; (try dsimp only at hSw); go_simp; (try with_reducible rfl))); (try simp only [Act.put, List.setIfInBounds_toArray, List.set_cons_zero, List.set_cons_succ]))
                            (refine wpAnyH_take (i := 5) (v := ?v5n233) (by simp only [List.getElem?_toArray, List.getElem?_cons_succ, List.getElem?_cons_zero]; rfl) (by kernel_rfl) (by kernel_rfl) (by kernel_rfl) (fun _ _ _ h => False.elim h) (Or.inl ⟨by rfl, ?hy5n233⟩) (by assumption) ?rest5n233; (case hy5n233 => (intro w hSw; (try dsimp only at hSw); go_simp; (try with_reducible rfl))); (try simp only [Act.put, List.setIfInBounds_toArray, List.set_cons_zero, List.set_cons_succ]))
                            (refine wpAnyH_take (i := 6) (v := ?v6n234) (by simp only [List.getElem?_toArray, List.getElem?_cons_succ, List.getElem?_cons_zero]; rfl) (by kernel_rfl) (by kernel_rfl) (by kernel_rfl) (fun _ _ _ h => False.elim h) (Or.inl ⟨by rfl, ?hy6n234⟩) (by assumption) ?rest6n234; (case hy6n234 => (intro w hSw; (try dsimp only at hSw); go_simp; (try with_reducible rfl))); (try simp only [Act.put, List.setIfInBounds_toArray, List.set_cons_zero, List.set_cons_succ]))
                            (refine wpAnyH_take (i := 7) (v := undef) (by simp only [List.getElem?_toArray, List.getElem?_cons_succ, List.getElem?_cons_zero]; rfl) (by kernel_rfl) (by kernel_rfl) (by kernel_rfl) (fun _ _ _ h => False.elim h) (Or.inr ⟨by rfl, rfl⟩) (by assumption) ?rest7s367; (try simp only [Act.put, List.setIfInBounds_toArray, List.set_cons_zero, List.set_cons_succ]))
                            (refine wpAnyH_take (i := 8) (v := undef) (by simp only [List.getElem?_toArray, List.getElem?_cons_succ, List.getElem?_cons_zero]; rfl) (by kernel_rfl) (by kernel_rfl) (by kernel_rfl) (fun _ _ _ h => False.elim h) (Or.inr ⟨by rfl, rfl⟩) (by assumption) ?rest8s368; (try simp only [Act.put, List.setIfInBounds_toArray, List.set_cons_zero, List.set_cons_succ]))
                            (refine wpAnyH_take (i := 9) (v := undef) (by simp only [List.getElem?_toArray, List.getElem?_cons_succ, List.getElem?_cons_zero]; rfl) (by kernel_rfl) (by kernel_rfl) (by kernel_rfl) (fun _ _ _ h => False.elim h) (Or.inr ⟨by rfl, rfl⟩) (by assumption) ?rest9s369; (try simp only [Act.put, List.setIfInBounds_toArray, List.set_cons_zero, List.set_cons_succ]))
                            (refine wpAnyH_take (i := 10) (v := undef) (by simp only [List.getElem?_toArray, List.getElem?_cons_succ, List.getElem?_cons_zero]; rfl) (by kernel_rfl) (by kernel_rfl) (by kernel_rfl) (fun _ _ _ h => False.elim h) (Or.inr ⟨by rfl, rfl⟩) (by assumption) ?rest10s370; (try simp only [Act.put, List.setIfInBounds_toArray, List.set_cons_zero, List.set_cons_succ]))
                            (refine wpAnyH_take (i := 11) (v := undef) (by simp only [List.getElem?_toArray, List.getElem?_cons_succ, List.getElem?_cons_zero]; rfl) (by kernel_rfl) (by kernel_rfl) (by kernel_rfl) (fun _ _ _ h => False.elim h) (Or.inr ⟨by rfl, rfl⟩) (by assumption) ?rest11s371; (try simp only [Act.put, List.setIfInBounds_toArray, List.set_cons_zero, List.set_cons_succ]))
                            (refine wpAnyH_take (i := 12) (v := undef) (by simp only [List.getElem?_toArray, List.getElem?_cons_succ, List.getElem?_cons_zero]; rfl) (by kernel_rfl) (by kernel_rfl) (by kernel_rfl) (fun _ _ _ h => False.elim h) (Or.inr ⟨by rfl, rfl⟩) (by assumption) ?rest12s372; (try simp only [Act.put, List.setIfInBounds_toArray, List.set_cons_zero, List.set_cons_succ]))
                            (refine wpAnyH_take (i := 13) (v := undef) (by simp only [List.getElem?_toArray, List.getElem?_cons_succ, List.getElem?_cons_zero]; rfl) (by kernel_rfl) (by kernel_rfl) (by kernel_rfl) (fun _ _ _ h => False.elim h) (Or.inr ⟨by rfl, rfl⟩) (by assumption) ?rest13s373; (try simp only [Act.put, List.setIfInBounds_toArray, List.set_cons_zero, List.set_cons_succ]))
                            (refine wpAnyH_take (i := 14) (v := undef) (by simp only [List.getElem?_toArray, List.getElem?_cons_succ, List.getElem?_cons_zero]; rfl) (by kernel_rfl) (by kernel_rfl) (by kernel_rfl) (fun _ _ _ h => False.elim h) (Or.inr ⟨by rfl, rfl⟩) (by assumption) ?rest14s374; (try simp only [Act.put, List.setIfInBounds_toArray, List.set_cons_zero, List.set_cons_succ]))
                            (refine wpAnyH_take (i := 15) (v := undef) (by simp only [List.getElem?_toArray, List.getElem?_cons_succ, List.getElem?_cons_zero]; rfl) (by kernel_rfl) (by kernel_rfl) (by kernel_rfl) (fun _ _ _ h => False.elim h) (Or.inr ⟨by rfl, rfl⟩) (by assumption) ?rest15s375; (try simp only [Act.put, List.setIfInBounds_toArray, List.set_cons_zero, List.set_cons_succ]))
                            (refine wpAnyH_take (i := 16) (v := undef) (by simp only [List.getElem?_toArray, List.getElem?_cons_succ, List.getElem?_cons_zero]; rfl) (by kernel_rfl) (by kernel_rfl) (by kernel_rfl) (fun _ _ _ h => False.elim h) (Or.inr ⟨by rfl, rfl⟩) (by assumption) ?rest16s376; (try simp only [Act.put, List.setIfInBounds_toArray, List.set_cons_zero, List.set_cons_succ]))
                            (refine wpAnyH_take (i := 17) (v := ?v17n235) (by simp only [List.getElem?_toArray, List.getElem?_cons_succ, List.getElem?_cons_zero]; rfl) (by kernel_rfl) (by kernel_rfl) (by kernel_rfl) (fun _ _ _ h => False.elim h) (Or.inl ⟨by rfl, ?hy17n235⟩) (by assumption) ?rest17n235; (case hy17n235 => (intro w hSw; (try dsimp only at hSw); go_simp; (try with_reducible rfl))); (try simp only [Act.put, List.setIfInBounds_toArray, List.set_cons_zero, List.set_cons_succ]))
                            (refine wpAnyH_take (i := 18) (v := ?v18n236) (by simp only [List.getElem?_toArray, List.getElem?_cons_succ, List.getElem?_cons_zero]; rfl) (by kernel_rfl) (by kernel_rfl) (by kernel_rfl) (fun _ _ _ h => False.elim h) (Or.inl ⟨by rfl, ?hy18n236⟩) (by assumption) ?rest18n236; (case hy18n236 => (intro w hSw; (try dsimp only at hSw); go_simp; (try with_reducible rfl))); (try simp only [Act.put, List.setIfInBounds_toArray, List.set_cons_zero, List.set_cons_succ]))
                            (refine wpAnyH_take (i := 19) (v := ?v19n237) (by simp only [List.getElem?_toArray, List.getElem?_cons_succ, List.getElem?_cons_zero]; rfl) (by kernel_rfl) (by kernel_rfl) (by kernel_rfl) (fun _ _ _ h => False.elim h) (Or.inl ⟨by rfl, ?hy19n237⟩) (by assumption) ?rest19n237; (case hy19n237 => (intro w hSw; (try dsimp only at hSw); go_simp; (try with_reducible rfl))); (try simp only [Act.put, List.setIfInBounds_toArray, List.set_cons_zero, List.set_cons_succ]))
                            (refine wpAnyH_take (i := 20) (v := ?v20n238) (by simp only [List.getElem?_toArray, List.getElem?_cons_succ, List.getElem?_cons_zero]; rfl) (by kernel_rfl) (by kernel_rfl) (by kernel_rfl) (fun _ _ _ h => False.elim h) (Or.inl ⟨by rfl, ?hy20n238⟩) (by assumption) ?rest20n238; (case hy20n238 => (intro w hSw; (try dsimp only at hSw); go_simp; (try with_reducible rfl))); (try simp only [Act.put, List.setIfInBounds_toArray, List.set_cons_zero, List.set_cons_succ]))
                            (refine wpAnyH_take (i := 21) (v := ?v21n239) (by simp only [List.getElem?_toArray, List.getElem?_cons_succ, List.getElem?_cons_zero]; rfl) (by kernel_rfl) (by kernel_rfl) (by kernel_rfl) (fun _ _ _ h => False.elim h) (Or.inl ⟨by rfl, ?hy21n239⟩) (by assumption) ?rest21n239; (case hy21n239 => (intro w hSw; (try dsimp only at hSw); go_simp; (try with_reducible rfl))); (try simp only [Act.put, List.setIfInBounds_toArray, List.set_cons_zero, List.set_cons_succ]))
                            (refine wpAnyH_take (i := 22) (v := ?v22n240) (by simp only [List.getElem?_toArray, List.getElem?_cons_succ, List.getElem?_cons_zero]; rfl) (by kernel_rfl) (by kernel_rfl) (by kernel_rfl) (fun _ _ _ h => False.elim h) (Or.inl ⟨by rfl, ?hy22n240⟩) (by assumption) ?rest22n240; (case hy22n240 => (intro w hSw; (try dsimp only at hSw); go_simp; (try with_reducible rfl))); (try simp only [Act.put, List.setIfInBounds_toArray, List.set_cons_zero, List.set_cons_succ]))
                            (refine wpAnyH_ready (rs := [23]) (by kernel_rfl) (by simp) ?_; refine AllReadyH.cons (o := _) (by simp only [List.getElem?_toArray, List.getElem?_cons_succ, List.getElem?_cons_zero]; rfl) (fun K hK => ?_) AllReadyH.nil; go_simp; ((with_reducible refine (HNm.out _ n2).mono ?_); rintro e w9 ⟨rfl, hP9⟩); refine hK.out _ _ (by trivial) (fun hHeld => ?_); clear hK K; (try simp only [Act.put, List.setIfInBounds_toArray, List.set_cons_zero, List.set_cons_succ]))
                            (refine wpAnyH_take (i := 24) (v := ?v24n241) (by simp only [List.getElem?_toArray, List.getElem?_cons_succ, List.getElem?_cons_zero]; rfl) (by kernel_rfl) (by kernel_rfl) (by kernel_rfl) (fun _ _ _ h => False.elim h) (Or.inl ⟨by rfl, ?hy24n241⟩) (by assumption) ?rest24n241; (case hy24n241 => (intro w hSw; (try dsimp only at hSw); go_simp; (try with_reducible rfl))); (try simp only [Act.put, List.setIfInBounds_toArray, List.set_cons_zero, List.set_cons_succ]))
                            (refine wpAnyH_take (i := 25) (v := ?v25n242) (by simp only [List.getElem?_toArray, List.getElem?_cons_succ, List.getElem?_cons_zero]; rfl) (by kernel_rfl) (by kernel_rfl) (by kernel_rfl) (fun _ _ _ h => False.elim h) (Or.inl ⟨by rfl, ?hy25n242⟩) (by assumption) ?rest25n242; (case hy25n242 => (intro w hSw; (try dsimp only at hSw); go_simp; (try with_reducible rfl))); (try simp only [Act.put, List.setIfInBounds_toArray, List.set_cons_zero, List.set_cons_succ]))
                            (refine wpAnyH_take (i := 26) (v := ?v26n243) (by simp only [List.getElem?_toArray, List.getElem?_cons_succ, List.getElem?_cons_zero]; rfl) (by kernel_rfl) (by kernel_rfl) (by kernel_rfl) (fun _ _ _ h => False.elim h) (Or.inl ⟨by rfl, ?hy26n243⟩) (by assumption) ?rest26n243; (case hy26n243 => (intro w hSw; (try dsimp only at hSw); go_simp; (try with_reducible rfl))); (try simp only [Act.put, List.setIfInBounds_toArray, List.set_cons_zero, List.set_cons_succ]))
                            (refine wpAnyH_take (i := 27) (v := ?v27n244) (by simp only [List.getElem?_toArray, List.getElem?_cons_succ, List.getElem?_cons_zero]; rfl) (by kernel_rfl) (by kernel_rfl) (by kernel_rfl) (fun _ _ _ h => False.elim h) (Or.inl ⟨by rfl, ?hy27n244⟩) (by assumption) ?rest27n244; (case hy27n244 => (intro w hSw; (try dsimp only at hSw); go_simp; (try with_reducible rfl))); (try simp only [Act.put, List.setIfInBounds_toArray, List.set_cons_zero, List.set_cons_succ]))
                            (refine wpAnyH_take (i := 28) (v := ?v28n245) (by simp only [List.getElem?_toArray, List.getElem?_cons_succ, List.getElem?_cons_zero]; rfl) (by kernel_rfl) (by kernel_rfl) (by kernel_rfl) (fun _ _ _ h => False.elim h) (Or.inl ⟨by rfl, ?hy28n245⟩) (by assumption) ?rest28n245; (case hy28n245 => (intro w hSw; (try dsimp only at hSw); go_simp; (try with_reducible rfl))); (try simp only [Act.put, List.setIfInBounds_toArray, List.set_cons_zero, List.set_cons_succ]))
                            refine wpAnyH_done (by kernel_rfl) ?_ _
                            refine NoPanic.normal ?_
                            clear hHeld
                            have X8 := hP9
                            clear n2 hP9 HSk HPb HNm
                            have HX8 := Lib.hid X8
                            clear X8
                            go_wp2_with fail
                            go_meet
                            case rel => first | exact ⟨by first | rfl | simp, cy, HX8.out, rfl, by have := HCm.out; omega⟩ | ((repeat apply Exists.intro); refine ⟨?r, ?f⟩; (case f => (and_intros <;> rfl)); exact ⟨by first | rfl | simp, cy, HX8.out, rfl, by have := HCm.out; omega⟩)
                    · as_aux_lemma =>
                        have hk0 : (kd == 0) = false := by simpa using h0
                        have hk1 : (kd == 1) = false := by simpa using h1
                        have hk2 : (kd == 2) = false := by simpa using h2
                        have hb7 := HP7.out.tw
                        have hpc := HP7.out.chain (fun K hT => hT.clear E HSz'.out (by have := HCm.out; omega))
                        have hpm := fun W {a} (h : Pc wz W p y x u v sb wr.heap.size (.cells #[.int .i64 kd, .int .i64 nn, .slice aa mm cp, .bool true] 72 (0, 0)) a cx cy cx C A B S nv) => h.rdrop (cy.all.length : Int) (by have := HNum.out.2.2.1; omega) (by have := HNum.out.2.2.2.1; omega) hb7.fs (by have := HCm.out; omega) hb7.cw
                        rw [if_pos ⟨by omega, by omega⟩, if_pos ⟨by omega, by omega⟩, Int.toNat_natCast] at hpm
                        have hml := fun W {a} (h : Pc wz W p y x u v sb wr.heap.size (.cells #[.int .i64 kd, .int .i64 nn, .slice aa mm cp, .bool true] 72 (0, 0)) a cx cy cx C A B S nv) => h.mdl.elim (fun _ hv => hv.cells)
                        obtain ⟨L, hL⟩ : ∃ L, cy.all.length = L := ⟨_, rfl⟩
                        rw [hL] at hpc hpm hml
                        have HPc := Lib.hid hpc
                        have HPm := Lib.hid hpm
                        have HMl := Lib.hid hml
                        clear hpc hpm hml hb7 hL
                        go_wp2_with fail
                        with_reducible refine HPc.out.mono ?_
                        rintro e w8 ⟨rfl, hP8⟩
                        obtain ⟨amo, cmo, _, _, _, _, m2, _⟩ := HMl.out w8 hP8
                        have X0 := hP8.below (Below.refl w8.heap.size w8).drew
                        obtain ⟨s0, s1, s2, _, _, _⟩ := HKk.out _ nv X0
                        have m2d : w8.drew.cell? ⟨u, 2, none⟩ = some (.slice amo L cmo) := m2
                        have HPm8 := Lib.hid (HPm.out _ X0)
                        clear hP8 HPc HMl HPm a0 a1 a2 m2
                        go_wp2_with fail
                        go_region_with (go_at_call 42; (with_reducible refine HPm8.out.mono ?_); rintro e w9 ⟨rfl, X9⟩)
                        all_goals
                          have HX9 := Lib.hid X9
                          clear X9 X0 HPm8 s0 s1 s2 m2d
                          go_wp2
                          go_meet
                          case rel => first | exact ⟨rfl, drp S cy L, HX9.out, rfl, by simp only [drp]; have := HCm.out; omega⟩ | ((repeat apply Exists.intro); (refine ⟨?_, ?_⟩); rotate_left 1; (focus (and_intros <;> rfl)); exact ⟨rfl, drp S cy L, HX9.out, rfl, by simp only [drp]; have := HCm.out; omega⟩)
              case rest =>
                as_aux_lemma =>
                  obtain ⟨rfl, c2, hP, hac, hcm2⟩ := hcut
                  have hcn := hP.tw.counts
                  have hPb := fun W hb => Pc.below (W' := W) hP hb
                  have HP := Lib.hid hP
                  have HCn := Lib.hid hcn
                  have HPb0 := Lib.hid hPb
                  clear hP hcn hPb HP7 HW7 HKk HQ3 HW5 HP
                  go_wp2_with fail
                  with_reducible refine HCn.out.mono ?_
                  rintro e wR0 ⟨rfl, hbR⟩
                  have hPR := HPb0.out _ hbR
                  clear hbR HPb0 HCn
                  go_upto_region 36 with (fail)
                  go_cut [227] (fun gg W => gg = .bool false ∧ Pc wz W p y x u v sb wr.heap.size (.cells #[.int .i64 kd, .int .i64 nn, .slice aa mm cp, .bool true] 72 (0, 0)) c2 cx c2 cx C A B S nv)
                  case first =>
                    as_aux_lemma =>
                      have hcw := hPR.tw.cw
                      obtain ⟨Kv, hv⟩ := hPR.mdl
                      obtain ⟨amo, cmo, hrm, _, _, _, m2, m3, m4, _⟩ := hv.cells
                      have hS : ∀ W, Below wR0.heap.size wR0 W → (W.cell? ⟨u, 2, none⟩ = some (.slice amo c2.all.length cmo) ∧ W.cell? ⟨u, 3, none⟩ = some (.int .i64 (c2.came : Int)) ∧ W.cell? ⟨u, 4, none⟩ = some (.int .i64 (c2.went : Int))) ∧ (W.cell? ⟨sb, 0, none⟩ = some (.int .i64 (B : Int)) ∧ W.cell? ⟨sb, 1, none⟩ = some (.int .i64 (S : Int)) ∧ W.cell? ⟨sb, 2, none⟩ = some (.int .i64 (nv : Int))) ∧ (convert 54 9 (.slice amo c2.all.length cmo)).run Tryd.prog W = .ok (.string (Str c2.all)) W := fun W hb => by
                        have hs := (hPR.below hb).sk
                        exact ⟨⟨(hb.cell (lt_of_cell m2)).trans m2, (hb.cell (lt_of_cell m3)).trans m3, (hb.cell (lt_of_cell m4)).trans m4⟩, ⟨cell_block hs 0, cell_block hs 1, cell_block hs 2⟩, str_run (P := Tryd.prog) (dst := 9) Tryd.underlying54 Tryd.underlying5 Tryd.underlying9 (hrm.keep hb) cmo 0⟩
                      have hcvt : ∀ W ab capb, Rd W ab (u8s c2.all) → (convert 54 9 (.slice ab c2.all.length capb)).run Tryd.prog W = .ok (.string (Str c2.all)) W := fun W ab capb hrb => str_run (P := Tryd.prog) (dst := 9) Tryd.underlying54 Tryd.underlying5 Tryd.underlying9 hrb capb 0
                      have hby : ∀ W, Below wR0.heap.size wR0 W → Calls Tryd.prog 39 #[.pointer (some ⟨y, 0, none⟩)] W fun e w' => ∃ a cap, e = .returned (.slice a c2.all.length cap) ∧ Rd w' a (u8s c2.all) ∧ Below wR0.heap.size wR0 w' := fun W hb => ((hPR.below hb).tw.bytes E HSz'.out (by have := HCm.out; omega)).mono fun _ _ ⟨a, cap, h1, h2, _, h3⟩ => ⟨a, cap, h1, h2, hb.trans (h3.mono hb.size)⟩
                      have hln := fun W (hb : Below wR0.heap.size wR0 W) => (hPR.below hb).tw.len
                      have hbu := fun W (hb : Below wR0.heap.size wR0 W) => (hPR.below hb).tw.buffers
                      have hfs := hPR.tw.fs
                      have hrh : ∀ W, Below wR0.heap.size wR0 W → Calls Tryd.prog 40 #[.pointer (some ⟨u, 0, none⟩), .agg #[.int .i64 (B : Int), .int .i64 (S : Int), .int .i64 (nv : Int)]] W fun e w' => e = .returned (.int .i64 (need S c2.frm c2.all.length : Int)) ∧ Below wR0.heap.size wR0 w' := fun W hb => (rheld_c B S nv (hv.below hb) (by have := HNum.out.2.2.1; omega) (by have := HNum.out.2.2.2.1; have := HCm.out; omega) (by have := HNum.out.2.2.2.1; omega)).mono fun _ _ ⟨h1, h2⟩ => ⟨h1, hb.trans (h2.mono hb.size)⟩
                      have hpb := fun W (hb : Below wR0.heap.size wR0 W) => hPR.below hb
                      have n0 : Below wR0.heap.size wR0 wR0.drew := (Below.refl _ _).drew
                      obtain ⟨L, hL⟩ : ∃ L, c2.all.length = L := ⟨_, rfl⟩
                      rw [hL] at hS hcvt hby hln
                      have HS := Lib.hid hS
                      have HCv := Lib.hid hcvt
                      have HBy := Lib.hid hby
                      have HLn2 := Lib.hid hln
                      have HBu := Lib.hid hbu
                      have HRh := Lib.hid hrh
                      have HPb := Lib.hid hpb
                      clear hS hcvt hby hln hbu hrh hpb hfs hL hcw hv hrm m2 m3 m4 hPR
                      go_wp2_with fail
                      refine wp_region_noPanic ?_
                      refine wp_region_held_drew (S := fun W => (W.cell? ⟨u, 2, none⟩ = some (.slice amo L cmo) ∧ W.cell? ⟨u, 3, none⟩ = some (.int .i64 (c2.came : Int)) ∧ W.cell? ⟨u, 4, none⟩ = some (.int .i64 (c2.went : Int))) ∧ (W.cell? ⟨sb, 0, none⟩ = some (.int .i64 (B : Int)) ∧ W.cell? ⟨sb, 1, none⟩ = some (.int .i64 (S : Int)) ∧ W.cell? ⟨sb, 2, none⟩ = some (.int .i64 (nv : Int))) ∧ (convert 54 9 (.slice amo L cmo)).run Tryd.prog W = .ok (.string (Str c2.all)) W) (by kernel_rfl) (HS.out _ n0) (fun hHeld => ?_)
                      (refine wpAnyH_take (i := 0) (v := ?v0n246) (by simp only [List.getElem?_toArray, List.getElem?_cons_succ, List.getElem?_cons_zero]; rfl) (by kernel_rfl) (by kernel_rfl) (by kernel_rfl) (fun _ _ _ h => False.elim h) (Or.inl ⟨by rfl, ?hy0n246⟩) (by assumption) ?rest0n246; (case hy0n246 => (intro w hSw; (try dsimp only at hSw); go_simp; (try with_reducible rfl))); (try simp only [Act.put, List.setIfInBounds_toArray, List.set_cons_zero, List.set_cons_succ]))
                      (refine wpAnyH_take (i := 1) (v := ?v1n247) (by simp only [List.getElem?_toArray, List.getElem?_cons_succ, List.getElem?_cons_zero]; rfl) (by kernel_rfl) (by kernel_rfl) (by kernel_rfl) (fun _ _ _ h => False.elim h) (Or.inl ⟨by rfl, ?hy1n247⟩) (by assumption) ?rest1n247; (case hy1n247 => (intro w hSw; (try dsimp only at hSw); go_simp; (try with_reducible rfl))); (try simp only [Act.put, List.setIfInBounds_toArray, List.set_cons_zero, List.set_cons_succ]))
                      (refine wpAnyH_take (i := 2) (v := ?v2n248) (by simp only [List.getElem?_toArray, List.getElem?_cons_succ, List.getElem?_cons_zero]; rfl) (by kernel_rfl) (by kernel_rfl) (by kernel_rfl) (fun _ _ _ h => False.elim h) (Or.inl ⟨by rfl, ?hy2n248⟩) (by assumption) ?rest2n248; (case hy2n248 => (intro w hSw; (try dsimp only at hSw); go_simp; (try with_reducible rfl))); (try simp only [Act.put, List.setIfInBounds_toArray, List.set_cons_zero, List.set_cons_succ]))
                      (refine wpAnyH_take (i := 3) (v := ?v3n249) (by simp only [List.getElem?_toArray, List.getElem?_cons_succ, List.getElem?_cons_zero]; rfl) (by kernel_rfl) (by kernel_rfl) (by kernel_rfl) (fun _ _ _ h => False.elim h) (Or.inl ⟨by rfl, ?hy3n249⟩) (by assumption) ?rest3n249; (case hy3n249 => (intro w hSw; (try dsimp only at hSw); go_simp; (try with_reducible rfl))); (try simp only [Act.put, List.setIfInBounds_toArray, List.set_cons_zero, List.set_cons_succ]))
                      (refine wpAnyH_take (i := 6) (v := ?v6n250) (by simp only [List.getElem?_toArray, List.getElem?_cons_succ, List.getElem?_cons_zero]; rfl) (by kernel_rfl) (by kernel_rfl) (by kernel_rfl) (fun _ _ _ h => False.elim h) (Or.inl ⟨by rfl, ?hy6n250⟩) (by assumption) ?rest6n250; (case hy6n250 => (intro w hSw; (try dsimp only at hSw); go_simp; (try with_reducible rfl))); (try simp only [Act.put, List.setIfInBounds_toArray, List.set_cons_zero, List.set_cons_succ]))
                      (refine wpAnyH_take (i := 7) (v := ?v7n251) (by simp only [List.getElem?_toArray, List.getElem?_cons_succ, List.getElem?_cons_zero]; rfl) (by kernel_rfl) (by kernel_rfl) (by kernel_rfl) (fun _ _ _ h => False.elim h) (Or.inl ⟨by rfl, ?hy7n251⟩) (by assumption) ?rest7n251; (case hy7n251 => (intro w hSw; (try dsimp only at hSw); go_simp; (try with_reducible rfl))); (try simp only [Act.put, List.setIfInBounds_toArray, List.set_cons_zero, List.set_cons_succ]))
                      (refine wpAnyH_take (i := 8) (v := ?v8n252) (by simp only [List.getElem?_toArray, List.getElem?_cons_succ, List.getElem?_cons_zero]; rfl) (by kernel_rfl) (by kernel_rfl) (by kernel_rfl) (fun _ _ _ h => False.elim h) (Or.inl ⟨by rfl, ?hy8n252⟩) (by assumption) ?rest8n252; (case hy8n252 => (intro w hSw; (try dsimp only at hSw); go_simp; (try with_reducible rfl))); (try simp only [Act.put, List.setIfInBounds_toArray, List.set_cons_zero, List.set_cons_succ]))
                      (refine wpAnyH_take (i := 9) (v := ?v9n253) (by simp only [List.getElem?_toArray, List.getElem?_cons_succ, List.getElem?_cons_zero]; rfl) (by kernel_rfl) (by kernel_rfl) (by kernel_rfl) (fun _ _ _ h => False.elim h) (Or.inl ⟨by rfl, ?hy9n253⟩) (by assumption) ?rest9n253; (case hy9n253 => (intro w hSw; (try dsimp only at hSw); go_simp; (try with_reducible rfl))); (try simp only [Act.put, List.setIfInBounds_toArray, List.set_cons_zero, List.set_cons_succ]))
                      (refine wpAnyH_take (i := 10) (v := ?v10n254) (by simp only [List.getElem?_toArray, List.getElem?_cons_succ, List.getElem?_cons_zero]; rfl) (by kernel_rfl) (by kernel_rfl) (by kernel_rfl) (fun _ _ _ h => False.elim h) (Or.inl ⟨by rfl, ?hy10n254⟩) (by assumption) ?rest10n254; (case hy10n254 => (intro w hSw; (try dsimp only at hSw); go_simp; (try with_reducible rfl))); (try simp only [Act.put, List.setIfInBounds_toArray, List.set_cons_zero, List.set_cons_succ]))
                      (refine wpAnyH_ready (rs := [4]) (by kernel_rfl) (by simp) ?_; refine AllReadyH.cons (o := _) (by simp only [List.getElem?_toArray, List.getElem?_cons_succ, List.getElem?_cons_zero]; rfl) (fun K hK => ?_) AllReadyH.nil; go_simp; ((with_reducible refine (HBy.out _ n0).mono ?_); rintro e w9 ⟨ab, capb, rfl, hrb, n2⟩; have hcv : (convert 54 9 (.slice ab (L) capb)).run Tryd.prog w9 = .ok (.string (Str c2.all)) w9 := HCv.out w9 ab capb hrb; clear hrb); refine hK.out _ _ (by exact HS.out _ n2) (fun hHeld => ?_); clear hK K; (try simp only [Act.put, List.setIfInBounds_toArray, List.set_cons_zero, List.set_cons_succ]))
                      (refine wpAnyH_ready (rs := [5]) (by kernel_rfl) (by simp) ?_; refine AllReadyH.cons (o := _) (by simp only [List.getElem?_toArray, List.getElem?_cons_succ, List.getElem?_cons_zero]; rfl) (fun K hK => ?_) AllReadyH.nil; go_simp; (skip); refine hK.out _ _ (by exact HS.out _ n2) (fun hHeld => ?_); clear hK K; (try simp only [Act.put, List.setIfInBounds_toArray, List.set_cons_zero, List.set_cons_succ]))
                      (refine wpAnyH_take (i := 11) (v := ?v11n255) (by simp only [List.getElem?_toArray, List.getElem?_cons_succ, List.getElem?_cons_zero]; rfl) (by kernel_rfl) (by kernel_rfl) (by kernel_rfl) (fun _ _ _ h => False.elim h) (Or.inl ⟨by rfl, ?hy11n255⟩) (by assumption) ?rest11n255; (case hy11n255 => (intro w hSw; (try dsimp only at hSw); go_simp; (try with_reducible rfl))); (try simp only [Act.put, List.setIfInBounds_toArray, List.set_cons_zero, List.set_cons_succ]))
                      (refine wpAnyH_take (i := 12) (v := ?v12n256) (by simp only [List.getElem?_toArray, List.getElem?_cons_succ, List.getElem?_cons_zero]; rfl) (by kernel_rfl) (by kernel_rfl) (by kernel_rfl) (fun _ _ _ h => False.elim h) (Or.inl ⟨by rfl, ?hy12n256⟩) (by assumption) ?rest12n256; (case hy12n256 => (intro w hSw; (try dsimp only at hSw); go_simp; (try with_reducible rfl))); (try simp only [Act.put, List.setIfInBounds_toArray, List.set_cons_zero, List.set_cons_succ]))
                      (refine wpAnyH_take (i := 13) (v := ?v13n257) (by simp only [List.getElem?_toArray, List.getElem?_cons_succ, List.getElem?_cons_zero]; rfl) (by kernel_rfl) (by kernel_rfl) (by kernel_rfl) (fun _ _ _ h => False.elim h) (Or.inl ⟨by rfl, ?hy13n257⟩) (by assumption) ?rest13n257; (case hy13n257 => (intro w hSw; (try dsimp only at hSw); go_simp; (try with_reducible rfl))); (try simp only [Act.put, List.setIfInBounds_toArray, List.set_cons_zero, List.set_cons_succ]))
                      (refine wpAnyH_take (i := 14) (v := ?v14n258) (by simp only [List.getElem?_toArray, List.getElem?_cons_succ, List.getElem?_cons_zero]; rfl) (by kernel_rfl) (by kernel_rfl) (by kernel_rfl) (fun _ _ _ h => False.elim h) (Or.inl ⟨by rfl, ?hy14n258⟩) (by assumption) ?rest14n258; (case hy14n258 => (intro w hSw; (try dsimp only at hSw); go_simp; (try with_reducible rfl))); (try simp only [Act.put, List.setIfInBounds_toArray, List.set_cons_zero, List.set_cons_succ]))
                      (refine wpAnyH_take (i := 16) (v := ?v16n259) (by simp only [List.getElem?_toArray, List.getElem?_cons_succ, List.getElem?_cons_zero]; rfl) (by kernel_rfl) (by kernel_rfl) (by kernel_rfl) (fun _ _ _ h => False.elim h) (Or.inl ⟨by rfl, ?hy16n259⟩) (by assumption) ?rest16n259; (case hy16n259 => (intro w hSw; (try dsimp only at hSw); go_simp; (try with_reducible rfl))); (try simp only [Act.put, List.setIfInBounds_toArray, List.set_cons_zero, List.set_cons_succ]))
                      (refine wpAnyH_take (i := 17) (v := ?v17n260) (by simp only [List.getElem?_toArray, List.getElem?_cons_succ, List.getElem?_cons_zero]; rfl) (by kernel_rfl) (by kernel_rfl) (by kernel_rfl) (fun _ _ _ h => False.elim h) (Or.inl ⟨by rfl, ?hy17n260⟩) (by assumption) ?rest17n260; (case hy17n260 => (intro w hSw; (try dsimp only at hSw); go_simp; (try with_reducible rfl))); (try simp only [Act.put, List.setIfInBounds_toArray, List.set_cons_zero, List.set_cons_succ]))
                      (refine wpAnyH_take (i := 18) (v := ?v18n261) (by simp only [List.getElem?_toArray, List.getElem?_cons_succ, List.getElem?_cons_zero]; rfl) (by kernel_rfl) (by kernel_rfl) (by kernel_rfl) (fun _ _ _ h => False.elim h) (Or.inl ⟨by rfl, ?hy18n261⟩) (by assumption) ?rest18n261; (case hy18n261 => (intro w hSw; (try dsimp only at hSw); go_simp; (try with_reducible rfl))); (try simp only [Act.put, List.setIfInBounds_toArray, List.set_cons_zero, List.set_cons_succ]))
                      (refine wpAnyH_take (i := 19) (v := ?v19n262) (by simp only [List.getElem?_toArray, List.getElem?_cons_succ, List.getElem?_cons_zero]; rfl) (by kernel_rfl) (by kernel_rfl) (by kernel_rfl) (fun _ _ _ h => False.elim h) (Or.inl ⟨by rfl, ?hy19n262⟩) (by assumption) ?rest19n262; (case hy19n262 => (intro w hSw; (try dsimp only at hSw); go_simp; (try with_reducible rfl))); (try simp only [Act.put, List.setIfInBounds_toArray, List.set_cons_zero, List.set_cons_succ]))
                      (refine wpAnyH_take (i := 20) (v := ?v20n263) (by simp only [List.getElem?_toArray, List.getElem?_cons_succ, List.getElem?_cons_zero]; rfl) (by kernel_rfl) (by kernel_rfl) (by kernel_rfl) (fun _ _ _ h => False.elim h) (Or.inl ⟨by rfl, ?hy20n263⟩) (by assumption) ?rest20n263; (case hy20n263 => (intro w hSw; (try dsimp only at hSw); go_simp; (try with_reducible rfl))); (try simp only [Act.put, List.setIfInBounds_toArray, List.set_cons_zero, List.set_cons_succ]))
                      (refine wpAnyH_ready (rs := [15]) (by kernel_rfl) (by simp) ?_; refine AllReadyH.cons (o := _) (by simp only [List.getElem?_toArray, List.getElem?_cons_succ, List.getElem?_cons_zero]; rfl) (fun K hK => ?_) AllReadyH.nil; go_simp; ((with_reducible refine (HLn2.out _ n2).mono ?_); rintro e wx ⟨rfl, rfl⟩); refine hK.out _ _ (by exact HS.out _ n2) (fun hHeld => ?_); clear hK K; (try simp only [Act.put, List.setIfInBounds_toArray, List.set_cons_zero, List.set_cons_succ]))
                      (refine wpAnyH_take (i := 21) (v := ?v21n264) (by simp only [List.getElem?_toArray, List.getElem?_cons_succ, List.getElem?_cons_zero]; rfl) (by kernel_rfl) (by kernel_rfl) (by kernel_rfl) (fun _ _ _ h => False.elim h) (Or.inl ⟨by rfl, ?hy21n264⟩) (by assumption) ?rest21n264; (case hy21n264 => (intro w hSw; (try dsimp only at hSw); go_simp; (try with_reducible rfl))); (try simp only [Act.put, List.setIfInBounds_toArray, List.set_cons_zero, List.set_cons_succ]))
                      (refine wpAnyH_take (i := 22) (v := ?v22n265) (by simp only [List.getElem?_toArray, List.getElem?_cons_succ, List.getElem?_cons_zero]; rfl) (by kernel_rfl) (by kernel_rfl) (by kernel_rfl) (fun _ _ _ h => False.elim h) (Or.inl ⟨by rfl, ?hy22n265⟩) (by assumption) ?rest22n265; (case hy22n265 => (intro w hSw; (try dsimp only at hSw); go_simp; (try with_reducible rfl))); (try simp only [Act.put, List.setIfInBounds_toArray, List.set_cons_zero, List.set_cons_succ]))
                      (refine wpAnyH_take (i := 23) (v := ?v23n266) (by simp only [List.getElem?_toArray, List.getElem?_cons_succ, List.getElem?_cons_zero]; rfl) (by kernel_rfl) (by kernel_rfl) (by kernel_rfl) (fun _ _ _ h => False.elim h) (Or.inl ⟨by rfl, ?hy23n266⟩) (by assumption) ?rest23n266; (case hy23n266 => (intro w hSw; (try dsimp only at hSw); go_simp; (try with_reducible rfl))); (try simp only [Act.put, List.setIfInBounds_toArray, List.set_cons_zero, List.set_cons_succ]))
                      (refine wpAnyH_take (i := 24) (v := ?v24n267) (by simp only [List.getElem?_toArray, List.getElem?_cons_succ, List.getElem?_cons_zero]; rfl) (by kernel_rfl) (by kernel_rfl) (by kernel_rfl) (fun _ _ _ h => False.elim h) (Or.inl ⟨by rfl, ?hy24n267⟩) (by assumption) ?rest24n267; (case hy24n267 => (intro w hSw; (try dsimp only at hSw); go_simp; (try with_reducible rfl))); (try simp only [Act.put, List.setIfInBounds_toArray, List.set_cons_zero, List.set_cons_succ]))
                      (refine wpAnyH_take (i := 26) (v := ?v26n268) (by simp only [List.getElem?_toArray, List.getElem?_cons_succ, List.getElem?_cons_zero]; rfl) (by kernel_rfl) (by kernel_rfl) (by kernel_rfl) (fun _ _ _ h => False.elim h) (Or.inl ⟨by rfl, ?hy26n268⟩) (by assumption) ?rest26n268; (case hy26n268 => (intro w hSw; (try dsimp only at hSw); go_simp; (try with_reducible rfl))); (try simp only [Act.put, List.setIfInBounds_toArray, List.set_cons_zero, List.set_cons_succ]))
                      (refine wpAnyH_take (i := 27) (v := ?v27n269) (by simp only [List.getElem?_toArray, List.getElem?_cons_succ, List.getElem?_cons_zero]; rfl) (by kernel_rfl) (by kernel_rfl) (by kernel_rfl) (fun _ _ _ h => False.elim h) (Or.inl ⟨by rfl, ?hy27n269⟩) (by assumption) ?rest27n269; (case hy27n269 => (intro w hSw; (try dsimp only at hSw); go_simp; (try with_reducible rfl))); (try simp only [Act.put, List.setIfInBounds_toArray, List.set_cons_zero, List.set_cons_succ]))
                      (refine wpAnyH_ready (rs := [25]) (by kernel_rfl) (by simp) ?_; refine AllReadyH.cons (o := _) (by simp only [List.getElem?_toArray, List.getElem?_cons_succ, List.getElem?_cons_zero]; rfl) (fun K hK => ?_) AllReadyH.nil; go_simp; ((with_reducible refine (HBu.out _ n2).mono ?_); rintro e wx ⟨rfl, rfl⟩); refine hK.out _ _ (by exact HS.out _ n2) (fun hHeld => ?_); clear hK K; (try simp only [Act.put, List.setIfInBounds_toArray, List.set_cons_zero, List.set_cons_succ]))
                      (refine wpAnyH_ready (rs := [28]) (by kernel_rfl) (by simp) ?_; refine AllReadyH.cons (o := _) (by simp only [List.getElem?_toArray, List.getElem?_cons_succ, List.getElem?_cons_zero]; rfl) (fun K hK => ?_) AllReadyH.nil; go_simp; ((with_reducible refine (HRh.out _ n2).mono ?_); rintro e wy ⟨rfl, n3⟩); refine hK.out _ _ (by exact HS.out _ n3) (fun hHeld => ?_); clear hK K; (try simp only [Act.put, List.setIfInBounds_toArray, List.set_cons_zero, List.set_cons_succ]))
                      (refine wpAnyH_take (i := 29) (v := ?v29n270) (by simp only [List.getElem?_toArray, List.getElem?_cons_succ, List.getElem?_cons_zero]; rfl) (by kernel_rfl) (by kernel_rfl) (by kernel_rfl) (fun _ _ _ h => False.elim h) (Or.inl ⟨by rfl, ?hy29n270⟩) (by assumption) ?rest29n270; (case hy29n270 => (intro w hSw; (try dsimp only at hSw); go_simp; (try with_reducible rfl))); (try simp only [Act.put, List.setIfInBounds_toArray, List.set_cons_zero, List.set_cons_succ]))
                      (refine wpAnyH_take (i := 30) (v := ?v30n271) (by simp only [List.getElem?_toArray, List.getElem?_cons_succ, List.getElem?_cons_zero]; rfl) (by kernel_rfl) (by kernel_rfl) (by kernel_rfl) (fun _ _ _ h => False.elim h) (Or.inl ⟨by rfl, ?hy30n271⟩) (by assumption) ?rest30n271; (case hy30n271 => (intro w hSw; (try dsimp only at hSw); go_simp; (try with_reducible rfl))); (try simp only [Act.put, List.setIfInBounds_toArray, List.set_cons_zero, List.set_cons_succ]))
                      (refine wpAnyH_take (i := 31) (v := ?v31n272) (by simp only [List.getElem?_toArray, List.getElem?_cons_succ, List.getElem?_cons_zero]; rfl) (by kernel_rfl) (by kernel_rfl) (by kernel_rfl) (fun _ _ _ h => False.elim h) (Or.inl ⟨by rfl, ?hy31n272⟩) (by assumption) ?rest31n272; (case hy31n272 => (intro w hSw; (try dsimp only at hSw); go_simp; (try with_reducible rfl))); (try simp only [Act.put, List.setIfInBounds_toArray, List.set_cons_zero, List.set_cons_succ]))
                      (refine wpAnyH_take (i := 32) (v := ?v32n273) (by simp only [List.getElem?_toArray, List.getElem?_cons_succ, List.getElem?_cons_zero]; rfl) (by kernel_rfl) (by kernel_rfl) (by kernel_rfl) (fun _ _ _ h => False.elim h) (Or.inl ⟨by rfl, ?hy32n273⟩) (by assumption) ?rest32n273; (case hy32n273 => (intro w hSw; (try dsimp only at hSw); go_simp; (try with_reducible rfl))); (try simp only [Act.put, List.setIfInBounds_toArray, List.set_cons_zero, List.set_cons_succ]))
                      (refine wpAnyH_take (i := 33) (v := ?v33n274) (by simp only [List.getElem?_toArray, List.getElem?_cons_succ, List.getElem?_cons_zero]; rfl) (by kernel_rfl) (by kernel_rfl) (by kernel_rfl) (fun _ _ _ h => False.elim h) (Or.inl ⟨by rfl, ?hy33n274⟩) (by assumption) ?rest33n274; (case hy33n274 => (intro w hSw; (try dsimp only at hSw); go_simp; (try with_reducible rfl))); (try simp only [Act.put, List.setIfInBounds_toArray, List.set_cons_zero, List.set_cons_succ]))
                      (refine wpAnyH_take (i := 34) (v := ?v34n275) (by simp only [List.getElem?_toArray, List.getElem?_cons_succ, List.getElem?_cons_zero]; rfl) (by kernel_rfl) (by kernel_rfl) (by kernel_rfl) (fun _ _ _ h => False.elim h) (Or.inl ⟨by rfl, ?hy34n275⟩) (by assumption) ?rest34n275; (case hy34n275 => (intro w hSw; (try dsimp only at hSw); go_simp; (try with_reducible rfl))); (try simp only [Act.put, List.setIfInBounds_toArray, List.set_cons_zero, List.set_cons_succ]))
                      (refine wpAnyH_take (i := 35) (v := ?v35n276) (by simp only [List.getElem?_toArray, List.getElem?_cons_succ, List.getElem?_cons_zero]; rfl) (by kernel_rfl) (by kernel_rfl) (by kernel_rfl) (fun _ _ _ h => False.elim h) (Or.inl ⟨by rfl, ?hy35n276⟩) (by assumption) ?rest35n276; (case hy35n276 => (intro w hSw; (try dsimp only at hSw); go_simp; (try with_reducible rfl))); (try simp only [Act.put, List.setIfInBounds_toArray, List.set_cons_zero, List.set_cons_succ]))
                      (refine wpAnyH_take (i := 36) (v := ?v36n277) (by simp only [List.getElem?_toArray, List.getElem?_cons_succ, List.getElem?_cons_zero]; rfl) (by kernel_rfl) (by kernel_rfl) (by kernel_rfl) (fun _ _ _ h => False.elim h) (Or.inl ⟨by rfl, ?hy36n277⟩) (by assumption) ?rest36n277; (case hy36n277 => (intro w hSw; (try dsimp only at hSw); go_simp; (try with_reducible rfl))); (try simp only [Act.put, List.setIfInBounds_toArray, List.set_cons_zero, List.set_cons_succ]))
                      (refine wpAnyH_take (i := 37) (v := ?v37n278) (by simp only [List.getElem?_toArray, List.getElem?_cons_succ, List.getElem?_cons_zero]; rfl) (by kernel_rfl) (by kernel_rfl) (by kernel_rfl) (fun _ _ _ h => False.elim h) (Or.inl ⟨by rfl, ?hy37n278⟩) (by assumption) ?rest37n278; (case hy37n278 => (intro w hSw; (try dsimp only at hSw); go_simp; (try with_reducible rfl))); (try simp only [Act.put, List.setIfInBounds_toArray, List.set_cons_zero, List.set_cons_succ]))
                      (refine wpAnyH_take (i := 38) (v := ?v38n279) (by simp only [List.getElem?_toArray, List.getElem?_cons_succ, List.getElem?_cons_zero]; rfl) (by kernel_rfl) (by kernel_rfl) (by kernel_rfl) (fun _ _ _ h => False.elim h) (Or.inl ⟨by rfl, ?hy38n279⟩) (by assumption) ?rest38n279; (case hy38n279 => (intro w hSw; (try dsimp only at hSw); go_simp; (try with_reducible rfl))); (try simp only [Act.put, List.setIfInBounds_toArray, List.set_cons_zero, List.set_cons_succ]))
                      (refine wpAnyH_take (i := 39) (v := ?v39n280) (by simp only [List.getElem?_toArray, List.getElem?_cons_succ, List.getElem?_cons_zero]; rfl) (by kernel_rfl) (by kernel_rfl) (by kernel_rfl) (fun _ _ _ h => False.elim h) (Or.inl ⟨by rfl, ?hy39n280⟩) (by assumption) ?rest39n280; (case hy39n280 => (intro w hSw; (try dsimp only at hSw); go_simp; (try with_reducible rfl))); (try simp only [Act.put, List.setIfInBounds_toArray, List.set_cons_zero, List.set_cons_succ]))
                      (refine wpAnyH_take (i := 40) (v := ?v40n281) (by simp only [List.getElem?_toArray, List.getElem?_cons_succ, List.getElem?_cons_zero]; rfl) (by kernel_rfl) (by kernel_rfl) (by kernel_rfl) (fun _ _ _ h => False.elim h) (Or.inl ⟨by rfl, ?hy40n281⟩) (by assumption) ?rest40n281; (case hy40n281 => (intro w hSw; (try dsimp only at hSw); go_simp; (try with_reducible rfl))); (try simp only [Act.put, List.setIfInBounds_toArray, List.set_cons_zero, List.set_cons_succ]))
                      (refine wpAnyH_take (i := 41) (v := ?v41n282) (by simp only [List.getElem?_toArray, List.getElem?_cons_succ, List.getElem?_cons_zero]; rfl) (by kernel_rfl) (by kernel_rfl) (by kernel_rfl) (fun _ _ _ h => False.elim h) (Or.inl ⟨by rfl, ?hy41n282⟩) (by assumption) ?rest41n282; (case hy41n282 => (intro w hSw; (try dsimp only at hSw); go_simp; (try with_reducible rfl))); (try simp only [Act.put, List.setIfInBounds_toArray, List.set_cons_zero, List.set_cons_succ]))
                      (refine wpAnyH_take (i := 42) (v := ?v42n283) (by simp only [List.getElem?_toArray, List.getElem?_cons_succ, List.getElem?_cons_zero]; rfl) (by kernel_rfl) (by kernel_rfl) (by kernel_rfl) (fun _ _ _ h => False.elim h) (Or.inl ⟨by rfl, ?hy42n283⟩) (by assumption) ?rest42n283; (case hy42n283 => (intro w hSw; (try dsimp only at hSw); go_simp; (try with_reducible rfl))); (try simp only [Act.put, List.setIfInBounds_toArray, List.set_cons_zero, List.set_cons_succ]))
                      (refine wpAnyH_take (i := 43) (v := ?v43n284) (by simp only [List.getElem?_toArray, List.getElem?_cons_succ, List.getElem?_cons_zero]; rfl) (by kernel_rfl) (by kernel_rfl) (by kernel_rfl) (fun _ _ _ h => False.elim h) (Or.inl ⟨by rfl, ?hy43n284⟩) (by assumption) ?rest43n284; (case hy43n284 => (intro w hSw; (try dsimp only at hSw); go_simp; (try with_reducible rfl))); (try simp only [Act.put, List.setIfInBounds_toArray, List.set_cons_zero, List.set_cons_succ]))
                      (refine wpAnyH_take (i := 44) (v := ?v44n285) (by simp only [List.getElem?_toArray, List.getElem?_cons_succ, List.getElem?_cons_zero]; rfl) (by kernel_rfl) (by kernel_rfl) (by kernel_rfl) (fun _ _ _ h => False.elim h) (Or.inl ⟨by rfl, ?hy44n285⟩) (by assumption) ?rest44n285; (case hy44n285 => (intro w hSw; (try dsimp only at hSw); go_simp; (try with_reducible rfl))); (try simp only [Act.put, List.setIfInBounds_toArray, List.set_cons_zero, List.set_cons_succ]))
                      (refine wpAnyH_take (i := 45) (v := ?v45n286) (by simp only [List.getElem?_toArray, List.getElem?_cons_succ, List.getElem?_cons_zero]; rfl) (by kernel_rfl) (by kernel_rfl) (by kernel_rfl) (fun _ _ _ h => False.elim h) (Or.inl ⟨by rfl, ?hy45n286⟩) (by assumption) ?rest45n286; (case hy45n286 => (intro w hSw; (try dsimp only at hSw); go_simp; (try with_reducible rfl))); (try simp only [Act.put, List.setIfInBounds_toArray, List.set_cons_zero, List.set_cons_succ]))
                      (refine wpAnyH_take (i := 46) (v := ?v46n287) (by simp only [List.getElem?_toArray, List.getElem?_cons_succ, List.getElem?_cons_zero]; rfl) (by kernel_rfl) (by kernel_rfl) (by kernel_rfl) (fun _ _ _ h => False.elim h) (Or.inl ⟨by rfl, ?hy46n287⟩) (by assumption) ?rest46n287; (case hy46n287 => (intro w hSw; (try dsimp only at hSw); go_simp; (try with_reducible rfl))); (try simp only [Act.put, List.setIfInBounds_toArray, List.set_cons_zero, List.set_cons_succ]))
                      refine wpAnyH_done (by kernel_rfl) ?_ _
                      refine NoPanic.normal ?_
                      clear hHeld
                      have HX := Lib.hid (HPb.out _ n3)
                      clear n0 n2 n3
                      go_wp2_with fail
                      go_meet
                      case rel => first | exact ⟨by first | rfl | simp, HX.out⟩ | ((repeat apply Exists.intro); refine ⟨?r, ?f⟩; (case f => (and_intros <;> rfl)); exact ⟨by first | rfl | simp, HX.out⟩)
                  case rest =>
                    obtain ⟨rfl, hP35⟩ := hcut
                    clear hPR
                    go_upto_region 37 with (fail)
                    go_cut [253] (fun gg W => gg = .bool false ∧ Pc wz W p y x u v sb wr.heap.size (.cells #[.int .i64 kd, .int .i64 nn, .slice aa mm cp, .bool true] 72 (0, 0)) c2 cx c2 cx C A B S nv)
                    case first =>
                      as_aux_lemma =>
                        have hd := hP35.swap
                        have hS : ∀ W, Below wc.heap.size wc W → (W.cell? ⟨sb, 0, none⟩ = some (.int .i64 (B : Int)) ∧ W.cell? ⟨sb, 1, none⟩ = some (.int .i64 (S : Int)) ∧ W.cell? ⟨sb, 2, none⟩ = some (.int .i64 (nv : Int))) := fun W hb => by
                          have hs := (hP35.below hb).sk
                          exact ⟨cell_block hs 0, cell_block hs 1, cell_block hs 2⟩
                        obtain ⟨nu, hnu⟩ : ∃ n, need S c2.frm c2.all.length = n := ⟨_, rfl⟩
                        have hnd := hP35.tw.nd
                        have hnv2 := HNv.out
                        rw [hnu, hnv2] at hnd
                        have hca : c2.acc = 2 := by rw [hac]; exact HAc.out.2
                        have hda : cx.acc = 1 := HAc.out.1
                        have hh1 : ∀ W, Below wc.heap.size wc W → Calls Tryd.prog 16 #[.pointer (some ⟨p, 0, none⟩), .int .i64 2] W fun e w' => e = .returned (.int .i64 (nu : Int)) ∧ W = w' := fun W hb => by
                          have h1 := (hP35.below hb).tw.held
                          rw [hca, hnu] at h1
                          exact h1
                        have hh2 : ∀ W, Below wc.heap.size wc W → Calls Tryd.prog 16 #[.pointer (some ⟨p, 0, none⟩), .int .i64 1] W fun e w' => e = .returned (.int .i64 (nv : Int)) ∧ W = w' := fun W hb => by
                          have h1 := (hP35.below hb).swap.tw.held
                          rw [hda, hnv2] at h1
                          exact h1
                        have hus : ∀ W, Below wc.heap.size wc W → Calls Tryd.prog 18 #[.pointer (some ⟨p, 0, none⟩)] W fun e w' => e = .returned (.int .i64 ((nu : Int) + (nv : Int))) ∧ W = w' := fun W hb => by
                          have h1 := (hP35.below hb).tw.used
                          rw [hnu, hnv2, Int.natCast_add] at h1
                          exact h1
                        have hr1 : ∀ W, Below wc.heap.size wc W → Calls Tryd.prog 40 #[.pointer (some ⟨u, 0, none⟩), .agg #[.int .i64 (B : Int), .int .i64 (S : Int), .int .i64 (nv : Int)]] W fun e w' => e = .returned (.int .i64 (nu : Int)) ∧ Below wc.heap.size wc w' := fun W hb => by
                          obtain ⟨_, hv⟩ := (hP35.below hb).mdl
                          have h1 := rheld_c B S nv hv (by have := HNum.out.2.2.1; omega) (by have h1 := hP35.tw.cw; have h2 := hP35.tw.fs; have h3 := HNum.out.2.2.2.1; have h4 := HCm.out; omega) (by have := HNum.out.2.2.2.1; omega)
                          rw [hnu] at h1
                          exact h1.mono fun _ _ ⟨h2, h3⟩ => ⟨h2, hb.trans (h3.mono hb.size)⟩
                        have hr2 : ∀ W, Below wc.heap.size wc W → Calls Tryd.prog 40 #[.pointer (some ⟨v, 0, none⟩), .agg #[.int .i64 (B : Int), .int .i64 (S : Int), .int .i64 (nv : Int)]] W fun e w' => e = .returned (.int .i64 (nv : Int)) ∧ Below wc.heap.size wc w' := fun W hb => by
                          obtain ⟨_, hv⟩ := (hP35.below hb).swap.mdl
                          have h1 := rheld_c B S nv hv (by have := HNum.out.2.2.1; omega) (by have h1 := hP35.swap.tw.cw; have h2 := hP35.swap.tw.fs; have h3 := HNum.out.2.2.2.1; have h4 := HCm.out; omega) (by have := HNum.out.2.2.2.1; omega)
                          rw [hnv2] at h1
                          exact h1.mono fun _ _ ⟨h2, h3⟩ => ⟨h2, hb.trans (h3.mono hb.size)⟩
                        have hpb := fun W (hb : Below wc.heap.size wc W) => hP35.below hb
                        have n0 : Below wc.heap.size wc wc.drew := (Below.refl _ _).drew
                        have hwrr : IntKind.i64.wrap ((nu : Int) + (nv : Int)) = (nu : Int) + (nv : Int) := by
                          have hB12 := HNum.out.2.1
                          simp [IntKind.wrap, IntKind.bits, IntKind.signed]
                          omega
                        have hwrr2 : IntKind.i64.wrap ((nv : Int) + (nu : Int)) = (nu : Int) + (nv : Int) := by rw [Int.add_comm]; exact hwrr
                        have HS := Lib.hid hS
                        have H1 := Lib.hid hh1
                        have H2 := Lib.hid hh2
                        have HUs := Lib.hid hus
                        have HR1 := Lib.hid hr1
                        have HR2 := Lib.hid hr2
                        have HPb := Lib.hid hpb
                        clear hd hS hnu hnd hnv2 hca hda hh1 hh2 hus hr1 hr2 hpb hP35
                        go_wp2_with fail
                        refine wp_region_noPanic ?_
                        refine wp_region_held_drew (S := fun W => W.cell? ⟨sb, 0, none⟩ = some (.int .i64 (B : Int)) ∧ W.cell? ⟨sb, 1, none⟩ = some (.int .i64 (S : Int)) ∧ W.cell? ⟨sb, 2, none⟩ = some (.int .i64 (nv : Int))) (by kernel_rfl) (HS.out _ n0) (fun hHeld => ?_)
                        (refine wpAnyH_take (i := 0) (v := ?v0n288) (by simp only [List.getElem?_toArray, List.getElem?_cons_succ, List.getElem?_cons_zero]; rfl) (by kernel_rfl) (by kernel_rfl) (by kernel_rfl) (fun _ _ _ h => False.elim h) (Or.inl ⟨by rfl, ?hy0n288⟩) (by assumption) ?rest0n288; (case hy0n288 => (intro w hSw; (try dsimp only at hSw); go_simp; (try with_reducible rfl))); (try simp only [Act.put, List.setIfInBounds_toArray, List.set_cons_zero, List.set_cons_succ]))
                        (refine wpAnyH_take (i := 2) (v := ?v2n289) (by simp only [List.getElem?_toArray, List.getElem?_cons_succ, List.getElem?_cons_zero]; rfl) (by kernel_rfl) (by kernel_rfl) (by kernel_rfl) (fun _ _ _ h => False.elim h) (Or.inl ⟨by rfl, ?hy2n289⟩) (by assumption) ?rest2n289; (case hy2n289 => (intro w hSw; (try dsimp only at hSw); go_simp; (try with_reducible rfl))); (try simp only [Act.put, List.setIfInBounds_toArray, List.set_cons_zero, List.set_cons_succ]))
                        (refine wpAnyH_take (i := 3) (v := ?v3n290) (by simp only [List.getElem?_toArray, List.getElem?_cons_succ, List.getElem?_cons_zero]; rfl) (by kernel_rfl) (by kernel_rfl) (by kernel_rfl) (fun _ _ _ h => False.elim h) (Or.inl ⟨by rfl, ?hy3n290⟩) (by assumption) ?rest3n290; (case hy3n290 => (intro w hSw; (try dsimp only at hSw); go_simp; (try with_reducible rfl))); (try simp only [Act.put, List.setIfInBounds_toArray, List.set_cons_zero, List.set_cons_succ]))
                        (refine wpAnyH_ready (rs := [1]) (by kernel_rfl) (by simp) ?_; refine AllReadyH.cons (o := _) (by simp only [List.getElem?_toArray, List.getElem?_cons_succ, List.getElem?_cons_zero]; rfl) (fun K hK => ?_) AllReadyH.nil; go_simp; ((with_reducible refine (H2.out _ n0).mono ?_); rintro e wx ⟨rfl, rfl⟩; have n1 := n0); refine hK.out _ _ (by exact HS.out _ n1) (fun hHeld => ?_); clear hK K; (try simp only [Act.put, List.setIfInBounds_toArray, List.set_cons_zero, List.set_cons_succ]))
                        (refine wpAnyH_ready (rs := [4]) (by kernel_rfl) (by simp) ?_; refine AllReadyH.cons (o := _) (by simp only [List.getElem?_toArray, List.getElem?_cons_succ, List.getElem?_cons_zero]; rfl) (fun K hK => ?_) AllReadyH.nil; go_simp; ((with_reducible refine (HR2.out _ n1).mono ?_); rintro e wy ⟨rfl, n2⟩); refine hK.out _ _ (by exact HS.out _ n2) (fun hHeld => ?_); clear hK K; (try simp only [Act.put, List.setIfInBounds_toArray, List.set_cons_zero, List.set_cons_succ]))
                        (refine wpAnyH_take (i := 5) (v := ?v5n291) (by simp only [List.getElem?_toArray, List.getElem?_cons_succ, List.getElem?_cons_zero]; rfl) (by kernel_rfl) (by kernel_rfl) (by kernel_rfl) (fun _ _ _ h => False.elim h) (Or.inl ⟨by rfl, ?hy5n291⟩) (by assumption) ?rest5n291; (case hy5n291 => (intro w hSw; (try dsimp only at hSw); go_simp; (try with_reducible rfl))); (try simp only [Act.put, List.setIfInBounds_toArray, List.set_cons_zero, List.set_cons_succ]))
                        (refine wpAnyH_take (i := 6) (v := ?v6n292) (by simp only [List.getElem?_toArray, List.getElem?_cons_succ, List.getElem?_cons_zero]; rfl) (by kernel_rfl) (by kernel_rfl) (by kernel_rfl) (fun _ _ _ h => False.elim h) (Or.inl ⟨by rfl, ?hy6n292⟩) (by assumption) ?rest6n292; (case hy6n292 => (intro w hSw; (try dsimp only at hSw); go_simp; (try with_reducible rfl))); (try simp only [Act.put, List.setIfInBounds_toArray, List.set_cons_zero, List.set_cons_succ]))
                        (refine wpAnyH_take (i := 7) (v := ?v7n293) (by simp only [List.getElem?_toArray, List.getElem?_cons_succ, List.getElem?_cons_zero]; rfl) (by kernel_rfl) (by kernel_rfl) (by kernel_rfl) (fun _ _ _ h => False.elim h) (Or.inl ⟨by rfl, ?hy7n293⟩) (by assumption) ?rest7n293; (case hy7n293 => (intro w hSw; (try dsimp only at hSw); go_simp; (try with_reducible rfl))); (try simp only [Act.put, List.setIfInBounds_toArray, List.set_cons_zero, List.set_cons_succ]))
                        (refine wpAnyH_take (i := 9) (v := ?v9n294) (by simp only [List.getElem?_toArray, List.getElem?_cons_succ, List.getElem?_cons_zero]; rfl) (by kernel_rfl) (by kernel_rfl) (by kernel_rfl) (fun _ _ _ h => False.elim h) (Or.inl ⟨by rfl, ?hy9n294⟩) (by assumption) ?rest9n294; (case hy9n294 => (intro w hSw; (try dsimp only at hSw); go_simp; (try with_reducible rfl))); (try simp only [Act.put, List.setIfInBounds_toArray, List.set_cons_zero, List.set_cons_succ]))
                        (refine wpAnyH_take (i := 10) (v := ?v10n295) (by simp only [List.getElem?_toArray, List.getElem?_cons_succ, List.getElem?_cons_zero]; rfl) (by kernel_rfl) (by kernel_rfl) (by kernel_rfl) (fun _ _ _ h => False.elim h) (Or.inl ⟨by rfl, ?hy10n295⟩) (by assumption) ?rest10n295; (case hy10n295 => (intro w hSw; (try dsimp only at hSw); go_simp; (try with_reducible rfl))); (try simp only [Act.put, List.setIfInBounds_toArray, List.set_cons_zero, List.set_cons_succ]))
                        (refine wpAnyH_ready (rs := [8]) (by kernel_rfl) (by simp) ?_; refine AllReadyH.cons (o := _) (by simp only [List.getElem?_toArray, List.getElem?_cons_succ, List.getElem?_cons_zero]; rfl) (fun K hK => ?_) AllReadyH.nil; go_simp; ((with_reducible refine (H1.out _ n2).mono ?_); rintro e wx ⟨rfl, rfl⟩; have n3 := n2); refine hK.out _ _ (by exact HS.out _ n3) (fun hHeld => ?_); clear hK K; (try simp only [Act.put, List.setIfInBounds_toArray, List.set_cons_zero, List.set_cons_succ]))
                        (refine wpAnyH_ready (rs := [11]) (by kernel_rfl) (by simp) ?_; refine AllReadyH.cons (o := _) (by simp only [List.getElem?_toArray, List.getElem?_cons_succ, List.getElem?_cons_zero]; rfl) (fun K hK => ?_) AllReadyH.nil; go_simp; ((with_reducible refine (HR1.out _ n3).mono ?_); rintro e wy ⟨rfl, n4⟩); refine hK.out _ _ (by exact HS.out _ n4) (fun hHeld => ?_); clear hK K; (try simp only [Act.put, List.setIfInBounds_toArray, List.set_cons_zero, List.set_cons_succ]))
                        (refine wpAnyH_take (i := 12) (v := ?v12n296) (by simp only [List.getElem?_toArray, List.getElem?_cons_succ, List.getElem?_cons_zero]; rfl) (by kernel_rfl) (by kernel_rfl) (by kernel_rfl) (fun _ _ _ h => False.elim h) (Or.inl ⟨by rfl, ?hy12n296⟩) (by assumption) ?rest12n296; (case hy12n296 => (intro w hSw; (try dsimp only at hSw); go_simp; (try with_reducible rfl))); (try simp only [Act.put, List.setIfInBounds_toArray, List.set_cons_zero, List.set_cons_succ]))
                        (refine wpAnyH_take (i := 13) (v := ?v13n297) (by simp only [List.getElem?_toArray, List.getElem?_cons_succ, List.getElem?_cons_zero]; rfl) (by kernel_rfl) (by kernel_rfl) (by kernel_rfl) (fun _ _ _ h => False.elim h) (Or.inl ⟨by rfl, ?hy13n297⟩) (by assumption) ?rest13n297; (case hy13n297 => (intro w hSw; (try dsimp only at hSw); go_simp; (try with_reducible rfl))); (try simp only [Act.put, List.setIfInBounds_toArray, List.set_cons_zero, List.set_cons_succ]))
                        (refine wpAnyH_take (i := 14) (v := ?v14n298) (by simp only [List.getElem?_toArray, List.getElem?_cons_succ, List.getElem?_cons_zero]; rfl) (by kernel_rfl) (by kernel_rfl) (by kernel_rfl) (fun _ _ _ h => False.elim h) (Or.inl ⟨by rfl, ?hy14n298⟩) (by assumption) ?rest14n298; (case hy14n298 => (intro w hSw; (try dsimp only at hSw); go_simp; (try with_reducible rfl))); (try simp only [Act.put, List.setIfInBounds_toArray, List.set_cons_zero, List.set_cons_succ]))
                        (refine wpAnyH_take (i := 15) (v := ?v15n299) (by simp only [List.getElem?_toArray, List.getElem?_cons_succ, List.getElem?_cons_zero]; rfl) (by kernel_rfl) (by kernel_rfl) (by kernel_rfl) (fun _ _ _ h => False.elim h) (Or.inl ⟨by rfl, ?hy15n299⟩) (by assumption) ?rest15n299; (case hy15n299 => (intro w hSw; (try dsimp only at hSw); go_simp; (try with_reducible rfl))); (try simp only [Act.put, List.setIfInBounds_toArray, List.set_cons_zero, List.set_cons_succ]))
                        (refine wpAnyH_take (i := 17) (v := ?v17n300) (by simp only [List.getElem?_toArray, List.getElem?_cons_succ, List.getElem?_cons_zero]; rfl) (by kernel_rfl) (by kernel_rfl) (by kernel_rfl) (fun _ _ _ h => False.elim h) (Or.inl ⟨by rfl, ?hy17n300⟩) (by assumption) ?rest17n300; (case hy17n300 => (intro w hSw; (try dsimp only at hSw); go_simp; (try with_reducible rfl))); (try simp only [Act.put, List.setIfInBounds_toArray, List.set_cons_zero, List.set_cons_succ]))
                        (refine wpAnyH_take (i := 18) (v := ?v18n301) (by simp only [List.getElem?_toArray, List.getElem?_cons_succ, List.getElem?_cons_zero]; rfl) (by kernel_rfl) (by kernel_rfl) (by kernel_rfl) (fun _ _ _ h => False.elim h) (Or.inl ⟨by rfl, ?hy18n301⟩) (by assumption) ?rest18n301; (case hy18n301 => (intro w hSw; (try dsimp only at hSw); go_simp; (try with_reducible rfl))); (try simp only [Act.put, List.setIfInBounds_toArray, List.set_cons_zero, List.set_cons_succ]))
                        (refine wpAnyH_take (i := 20) (v := ?v20n302) (by simp only [List.getElem?_toArray, List.getElem?_cons_succ, List.getElem?_cons_zero]; rfl) (by kernel_rfl) (by kernel_rfl) (by kernel_rfl) (fun _ _ _ h => False.elim h) (Or.inl ⟨by rfl, ?hy20n302⟩) (by assumption) ?rest20n302; (case hy20n302 => (intro w hSw; (try dsimp only at hSw); go_simp; (try with_reducible rfl))); (try simp only [Act.put, List.setIfInBounds_toArray, List.set_cons_zero, List.set_cons_succ]))
                        (refine wpAnyH_take (i := 21) (v := ?v21n303) (by simp only [List.getElem?_toArray, List.getElem?_cons_succ, List.getElem?_cons_zero]; rfl) (by kernel_rfl) (by kernel_rfl) (by kernel_rfl) (fun _ _ _ h => False.elim h) (Or.inl ⟨by rfl, ?hy21n303⟩) (by assumption) ?rest21n303; (case hy21n303 => (intro w hSw; (try dsimp only at hSw); go_simp; (try with_reducible rfl))); (try simp only [Act.put, List.setIfInBounds_toArray, List.set_cons_zero, List.set_cons_succ]))
                        (refine wpAnyH_ready (rs := [16]) (by kernel_rfl) (by simp) ?_; refine AllReadyH.cons (o := _) (by simp only [List.getElem?_toArray, List.getElem?_cons_succ, List.getElem?_cons_zero]; rfl) (fun K hK => ?_) AllReadyH.nil; go_simp; ((with_reducible refine (HUs.out _ n4).mono ?_); rintro e wx ⟨rfl, rfl⟩; have n5 := n4); refine hK.out _ _ (by exact HS.out _ n5) (fun hHeld => ?_); clear hK K; (try simp only [Act.put, List.setIfInBounds_toArray, List.set_cons_zero, List.set_cons_succ]))
                        (refine wpAnyH_ready (rs := [19]) (by kernel_rfl) (by simp) ?_; refine AllReadyH.cons (o := _) (by simp only [List.getElem?_toArray, List.getElem?_cons_succ, List.getElem?_cons_zero]; rfl) (fun K hK => ?_) AllReadyH.nil; go_simp; ((with_reducible refine (HR2.out _ n5).mono ?_); rintro e wy ⟨rfl, n6⟩); refine hK.out _ _ (by exact HS.out _ n6) (fun hHeld => ?_); clear hK K; (try simp only [Act.put, List.setIfInBounds_toArray, List.set_cons_zero, List.set_cons_succ]))
                        (refine wpAnyH_ready (rs := [22]) (by kernel_rfl) (by simp) ?_; refine AllReadyH.cons (o := _) (by simp only [List.getElem?_toArray, List.getElem?_cons_succ, List.getElem?_cons_zero]; rfl) (fun K hK => ?_) AllReadyH.nil; go_simp; ((with_reducible refine (HR1.out _ n6).mono ?_); rintro e wy ⟨rfl, n7⟩); refine hK.out _ _ (by exact HS.out _ n7) (fun hHeld => ?_); clear hK K; (try simp only [Act.put, List.setIfInBounds_toArray, List.set_cons_zero, List.set_cons_succ]))
                        (refine wpAnyH_take (i := 23) (v := ?v23n304) (by simp only [List.getElem?_toArray, List.getElem?_cons_succ, List.getElem?_cons_zero]; rfl) (by kernel_rfl) (by kernel_rfl) (by kernel_rfl) (fun _ _ _ h => False.elim h) (Or.inl ⟨by rfl, ?hy23n304⟩) (by assumption) ?rest23n304; (case hy23n304 => (intro w hSw; (try dsimp only at hSw); go_simp; (try with_reducible rfl))); (try simp only [Act.put, List.setIfInBounds_toArray, List.set_cons_zero, List.set_cons_succ]))
                        (refine wpAnyH_take (i := 24) (v := ?v24n305) (by simp only [List.getElem?_toArray, List.getElem?_cons_succ, List.getElem?_cons_zero]; rfl) (by kernel_rfl) (by kernel_rfl) (by kernel_rfl) (fun _ _ _ h => False.elim h) (Or.inl ⟨by rfl, ?hy24n305⟩) (by assumption) ?rest24n305; (case hy24n305 => (intro w hSw; (try dsimp only at hSw); go_simp; (try with_reducible rfl))); (try simp only [Act.put, List.setIfInBounds_toArray, List.set_cons_zero, List.set_cons_succ]))
                        (refine wpAnyH_take (i := 25) (v := ?v25n306) (by simp only [List.getElem?_toArray, List.getElem?_cons_succ, List.getElem?_cons_zero]; rfl) (by kernel_rfl) (by kernel_rfl) (by kernel_rfl) (fun _ _ _ h => False.elim h) (Or.inl ⟨by rfl, ?hy25n306⟩) (by assumption) ?rest25n306; (case hy25n306 => (intro w hSw; (try dsimp only at hSw); go_simp; (try with_reducible rfl))); (try simp only [Act.put, List.setIfInBounds_toArray, List.set_cons_zero, List.set_cons_succ]))
                        refine wpAnyH_done (by kernel_rfl) ?_ _
                        refine NoPanic.normal ?_
                        clear hHeld
                        have n8 := n7
                        have n9 := n8
                        have HX := Lib.hid (HPb.out _ n9)
                        clear n0 n1 n2 n3 n4 n5 n6 n7 n8 n9 HS H1 H2 HUs HR1 HR2
                        go_wp2_with fail
                        go_meet
                        case rel => first | exact ⟨by first | rfl | simp, HX.out⟩ | ((repeat apply Exists.intro); refine ⟨?r, ?f⟩; (case f => (and_intros <;> rfl)); exact ⟨by first | rfl | simp, HX.out⟩)
                    case rest =>
                      obtain ⟨rfl, hP36⟩ := hcut
                      have H36 := Lib.hid (hP36.swap)
                      clear hP36 hP35
                      go_wp2_with fail
                      go_roundw
                      case rel => first | exact ⟨j + 1, by omega, by go_num, _, _, _, _, _, H36.out, HAc.out.1, hac.trans HAc.out.2, by have := HCm.out; omega, by omega⟩ | ((repeat apply Exists.intro); refine ⟨?r, ?f⟩; (case f => (and_intros <;> rfl)); exact ⟨j + 1, by omega, by go_num, _, _, _, _, _, H36.out, HAc.out.1, hac.trans HAc.out.2, by have := HCm.out; omega, by omega⟩)
                      case measure => simp [cj]; omega
        · obtain rfl : j = N := by omega
          have HB := Lib.hid hP4.B
          clear hP4 hTw
          go_wp2
          go_ret
          exact ⟨rfl, HZ.out.2.2.trans (HB.out.mono HZ.out.2.2.size)⟩
end Ch
end Go.Proofs.YtpjimmdpcpcmoaaDoor
