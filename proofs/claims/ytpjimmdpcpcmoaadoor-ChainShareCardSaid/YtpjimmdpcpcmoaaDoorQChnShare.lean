/- dofferlaw31.ChainShare. Conditions: the sentinels, and the table of TrailingZeros64, read as laid. -/
import Derived.Test.YtpjimmdpcpcmoaaDoorQChnBegin
import Derived.Deep.RegionHeld3
import Derived.BigQuiet
import Derived.Deep.CutBlock
namespace Go.Proofs.YtpjimmdpcpcmoaaDoor
open Go Go.RowKit Kt
namespace Ch
open Po
variable {w0 wb w w' w2 w3 W W' : World} {K K' : List Nat} {p x y : Nat} {L L' Sx Sy : List Nat} {m m' : Md} {lx ly : List Nat} {cx cy cx' : Cn} {qx qy n s : Nat}
theorem one_ne {s f q o n many : Nat} (h : one s f q o n many ≠ 0) : q ≤ need s f many ∨ n ≤ need s f many + o := by
  unfold one at h
  split at h
  · split at h
    · exact .inl (by assumption)
    · split at h
      · exact .inr (by assumption)
      · exact absurd rfl h
  · exact absurd rfl h
theorem need_zero (s : Nat) (c : Cn) : need s (drp s c c.all.length).frm (drp s c c.all.length).all.length = 0 ∧ (drp s c c.all.length).all.length = 0 := by simp [drp, need]
theorem TwX.new1 {s : Nat} (h : TwX w0 W p x y cx cy qx qy n s K) (ha : cx.acc = 1) (h0 : need s cx.frm cx.all.length = 0) : Calls Tryd.prog 21 #[.pointer (some ⟨p, 0, none⟩), .int .i64 1] W fun e w' => (∃ k, e = .returned (.tuple #[.pointer (some ⟨k, 0, none⟩), .nilIface])) ∧ Below W.heap.size W w' := by
  obtain ⟨L, Sx, Sy, m, lx, ly, h, _⟩ := h
  have hq := h.qx
  have hh := h.X.ok.hd
  rw [h.lenx, h0] at hh
  rw [ha] at hq hh
  exact (new_yes (w := W) 1 (by decide) h.X.P (by rw [hq]; rfl) hh).mono fun _ _ ⟨k, h1, _, h2, _⟩ => ⟨⟨k, h1⟩, h2⟩
/-- Where the loop of ChainShare stands. -/
def ShR (w0 : World) (p x y A C B S N : Nat) (i : Value) (W : World) : Prop :=
  ∃ j : Nat, j ≤ N ∧ i = .int .i64 (j : Int) ∧ ∃ cx cy, TwX w0 W p x y cx cy A C B S [] ∧ cx.acc = 1 ∧ cy.acc = 2 ∧ cx.came ≤ 200 * j ∧ cy.came ≤ 200 * j
set_option maxRecDepth 100000 in
set_option maxHeartbeats 8000000 in
theorem share_c (E : Nat → Addr) (z0 z1 z2 z3 : Int) (a : Option Addr) (cap : Nat) (l : List AcC) (w : World) (hl : l.length ≤ 9223372036854775807) (hr : Rd w a (l.flatMap ac4)) (hok : ∀ x ∈ l, x.ok w) (hT : Bt.Tab w) (hs : Sent 169 w E Er.egs) :
    Calls Tryd.prog 8 #[.agg #[.int .i64 z0, .int .i64 z1, .int .i64 z2, .int .i64 z3], .slice a l.length cap] w fun e w' => e = .returned (.bool true) ∧ Below w.heap.size w w' := by
  obtain ⟨wb, hwb⟩ : ∃ wb, w.alloc (.cells #[.int .i64 z0, .int .i64 z1, .int .i64 z2, .int .i64 z3] 65 (0, 0)) = wb := ⟨_, rfl⟩
  have hBb : Below w.heap.size w wb := by rw [← hwb]; exact (Below.refl _ _).alloc (Nat.le_refl _) _
  have hbl : wb.heap[w.heap.size]? = some (.cells #[.int .i64 z0, .int .i64 z1, .int .i64 z2, .int .i64 z3] 65 (0, 0)) := by rw [← hwb]; exact World.alloc_heap_new w _
  have hal := alive_c E wb (hT.below hBb) (hs.keep hBb)
  have hlg := fun W (hb : Below w.heap.size w W) => long_c a cap l W hl (hr.keep hb) (fun x hx => by have h1 := hok x hx; have h2 := h1.2.2.1; have h3 := h1.2.2.2.1; unfold maxLen at h3; omega)
  obtain ⟨N, hN⟩ : ∃ N, l.length = N := ⟨_, rfl⟩
  rw [hN] at hlg hl ⊢
  obtain ⟨qz, hqz⟩ : ∃ q, w.heap.size = q := ⟨_, rfl⟩
  have hqb : qz < wb.heap.size := by rw [← hqz]; exact block_lt hbl
  rw [hqz] at hbl
  have HQ := Lib.hid (And.intro hqz hqb)
  have HAl := Lib.hid hal
  have HLg := Lib.hid hlg
  have HWb := Lib.hid hwb
  have HBb := Lib.hid hBb
  have HBl := Lib.hid hbl
  have HT := Lib.hid hT
  have HS := Lib.hid hs
  have HR := Lib.hid hr
  have HOk := Lib.hid hok
  have HN := Lib.hid hN
  clear hwb hBb hbl hal hlg hT hs hr hok hN hqb
  go_enter Tryd.func8, Tryd.ntmps8
  go_wp2_with fail
  rw [HWb.out]
  with_reducible refine HAl.out.mono ?_
  rintro e w1 ⟨rfl, hb1⟩
  have HB1 := Lib.hid (HBb.out.trans (hb1.mono HBb.out.size))
  have HX1 := Lib.hid hb1
  clear hb1 HAl
  go_wp2_with fail
  with_reducible refine (HLg.out _ HB1.out).mono ?_
  rintro e w2 ⟨rfl, hb2⟩
  have HB2 := Lib.hid (HB1.out.trans (hb2.mono HB1.out.size))
  have HX2 := Lib.hid (HX1.out.trans (hb2.mono HX1.out.size))
  clear hb2 HLg HX1 HB1
  cases hlg : lg l with
  | true =>
    go_wp2
    go_ret
    exact ⟨rfl, HB2.out⟩
  | false =>
    have HLn := Lib.hid (lg_no hlg)
    clear hlg
    have hb2l := (HX2.out.block qz HQ.out.2).trans HBl.out
    have k0 := cell_block hb2l 0
    have k1 := cell_block hb2l 1
    have k2 := cell_block hb2l 2
    have k3 := cell_block hb2l 3
    simp only [List.getElem?_toArray, List.getElem?_cons_zero, List.getElem?_cons_succ] at k0 k1 k2 k3
    subst hqz
    clear hb2l
    go_wp2_with fail
    with_reducible refine (within_c z0 z1 z2 z3 w2).mono ?_
    rintro e w3 ⟨B, S, A, C, rfl, b1, b2, s1, s2, a1, a2, c1, c2, hb3⟩
    have hX3 := HX2.out.trans (hb3.mono HX2.out.size)
    have hB3 := HB2.out.trans (hb3.mono HB2.out.size)
    have hb3l := (hX3.block _ HQ.out.2).trans HBl.out
    have d0 := cell_block hb3l 0
    have d1 := cell_block hb3l 1
    have d2 := cell_block hb3l 2
    have d3 := cell_block hb3l 3
    have g0 := frozen_block hb3l 0
    have g1 := frozen_block hb3l 1
    have g2 := frozen_block hb3l 2
    have g3 := frozen_block hb3l 3
    simp only [List.getElem?_toArray, List.getElem?_cons_zero, List.getElem?_cons_succ] at d0 d1 d2 d3
    obtain ⟨wz, hwz⟩ : ∃ wz, (((w3.setCell ⟨w.heap.size, 0, none⟩ (.int .i64 (B : Int))).setCell ⟨w.heap.size, 1, none⟩ (.int .i64 (S : Int))).setCell ⟨w.heap.size, 2, none⟩ (.int .i64 (A : Int))).setCell ⟨w.heap.size, 3, none⟩ (.int .i64 (C : Int)) = wz := ⟨_, rfl⟩
    have hzl : wz.heap[w.heap.size]? = some (.cells #[.int .i64 (B : Int), .int .i64 (S : Int), .int .i64 (A : Int), .int .i64 (C : Int)] 65 (0, 0)) := by
      rw [← hwz]
      exact block_setCell (block_setCell (block_setCell (block_setCell hb3l _) _) _) _
    have hBz : Below w.heap.size w wz := by
      rw [← hwz]
      exact (((hB3.setCell (Nat.le_refl _) _).setCell (Nat.le_refl _) _).setCell (Nat.le_refl _) _).setCell (Nat.le_refl _) _
    have m0 := cell_block hzl 0
    have m1 := cell_block hzl 1
    have m2 := cell_block hzl 2
    have m3 := cell_block hzl 3
    simp only [List.getElem?_toArray, List.getElem?_cons_zero, List.getElem?_cons_succ] at m0 m1 m2 m3
    rw [← hwz] at m0 m1 m2 m3
    have HZ := Lib.hid (And.intro hwz (And.intro hzl hBz))
    have HBg := Lib.hid (begin_c B S A C b1 b2 s1 s2 a1 a2 c1 c2 wz wz (Below.refl _ _))
    have HNum := Lib.hid (And.intro b1 (And.intro b2 (And.intro s1 (And.intro s2 (And.intro a1 (And.intro a2 (And.intro c1 c2)))))))
    clear k0 k1 k2 k3 hb3 hX3 hB3 hb3l hwz hzl hBz b1 b2 s1 s2 a1 a2 c1 c2
    go_wp2_with fail
    rw [HZ.out.1]
    with_reducible refine HBg.out.mono ?_
    rintro e w4 ⟨p, x, y, rfl, hTw⟩
    have HTw := Lib.hid hTw
    have hsz : w.heap.size < wz.heap.size := block_lt HZ.out.2.1
    have HSz := Lib.hid hsz
    clear hTw d0 d1 d2 d3 g0 g1 g2 g3 m0 m1 m2 m3 HBg hsz HX2 HB2 HBb HBl HWb
    go_wp2_with fail
    have hzc : ∀ W, Below wz.heap.size wz W → W.cell? ⟨w.heap.size, 0, none⟩ = some (.int .i64 (B : Int)) ∧ W.cell? ⟨w.heap.size, 1, none⟩ = some (.int .i64 (S : Int)) ∧ W.cell? ⟨w.heap.size, 2, none⟩ = some (.int .i64 (A : Int)) ∧ W.cell? ⟨w.heap.size, 3, none⟩ = some (.int .i64 (C : Int)) := fun W hb => by
      have h1 := (hb.block _ HSz.out).trans HZ.out.2.1
      exact ⟨cell_block h1 0, cell_block h1 1, cell_block h1 2, cell_block h1 3⟩
    have HZC := Lib.hid hzc
    have HSz' := Lib.hid (HS.out.keep HZ.out.2.2)
    have HTz := Lib.hid (HT.out.below HZ.out.2.2)
    clear hzc
    go_loopw [9, 10, 11, 12, 35] (fun _ _ _ _ i W => ShR wz p x y A C B S N i W) (fun _ _ _ _ i _ => N - (cj i).toNat)
    case atStart => exact ⟨0, Nat.zero_le _, rfl, _, _, HTw.out, rfl, rfl, Nat.le_refl _, Nat.le_refl _⟩
    case round =>
      clear HTw
      obtain ⟨j, hj, rfl, cx, cy, hTw, hax, hay, hcx, hcy⟩ := hrel
      have hN60 := HLn.out.1
      rw [HN.out] at hN60
      by_cases hjN : j < N
      · have hjl : j < l.length := by rw [HN.out]; exact hjN
        obtain ⟨b, off, ha, hcs⟩ := (HR.out.keep (HZ.out.2.2.trans (hTw.B.mono HZ.out.2.2.size))).struct 4 (by intro z _; rfl) j hjl (by omega)
        have k0 := hcs 0 _ rfl (by omega)
        have k1 := hcs 1 _ rfl (by omega)
        have k2 := hcs 2 _ rfl (by omega)
        have k3 := hcs 3 _ rfl (by omega)
        have hmem := List.getElem_mem hjl
        have hao := HOk.out _ hmem
        have hbl := HLn.out.2 _ hmem
        clear hcs hmem
        subst ha
        generalize l[j] = act at *
        obtain ⟨kd, nn, aa, bs, cp, wh⟩ := act
        simp only [Nat.add_zero] at k0 k1 k2 k3 hbl
        rw [← Nat.add_assoc] at k1 k2 k3
        have hrd : Rd wz aa (u8s bs) := hao.1.keep HZ.out.2.2
        obtain ⟨mm, hmm⟩ : ∃ m, bs.length = m := ⟨_, rfl⟩
        rw [hmm] at k2 hbl
        have hB5 := (Below.refl wr.heap.size wr).alloc (Nat.le_refl _) (.cells #[.int .i64 kd, .int .i64 nn, .slice aa mm cp, .bool wh] 72 (0, 0))
        have hs5 := heap_alloc_new wr (.cells #[.int .i64 kd, .int .i64 nn, .slice aa mm cp, .bool wh] 72 (0, 0))
        obtain ⟨W5, hW5⟩ : ∃ W5, wr.alloc (.cells #[.int .i64 kd, .int .i64 nn, .slice aa mm cp, .bool wh] 72 (0, 0)) = W5 := ⟨_, rfl⟩
        rw [hW5] at hs5 hB5
        have hT5 : TwX wz W5 p x y cx cy A C B S [wr.heap.size] := hTw.other (Mod.of_below hB5 []) (by simp) (fun q hq => by simp only [List.mem_singleton] at hq; subst hq; exact ⟨.inr (Nat.le_refl _), block_lt hs5⟩) (by simp)
        cases wh with
        | false =>
          have hTu := hT5
          have hpu := hTu.push E aa cp bs HSz'.out HTz.out (by omega) hrd
          have hsp := (psh_spec (one S cx.frm A (need S cy.frm cy.all.length) B) bs.length cx.all.length).2
          have hle := psh_le (one S cx.frm A (need S cy.frm cy.all.length) B) cx.all.length bs.length
          generalize psh (one S cx.frm A (need S cy.frm cy.all.length) B) cx.all.length bs.length = r at *
          obtain ⟨k, er⟩ := r
          simp only at hsp hle hpu
          have hcl := fun W (hS : Stay [wr.heap.size] W5 W) => (hS.block (by simp) (block_lt hs5)).trans hs5
          have hll : (cx.all ++ bs.take k).length = cx.all.length + k := by rw [List.length_append, List.length_take]; omega
          have hern : er ≠ 0 → A ≤ need S (psd cx (bs.take k)).frm (psd cx (bs.take k)).all.length ∨ B ≤ need S (psd cx (bs.take k)).frm (psd cx (bs.take k)).all.length + need S cy.frm cy.all.length := fun h => by
            rcases hsp with h1 | h1
            · exact absurd h1.2 h
            · have h2 := one_ne (h1.2.2 ▸ h1.2.1)
              simp only [psd]
              rw [hll]
              exact h2
          rw [hmm] at hpu
          have hv0 : er = 0 → ee E er = .nilIface := fun h => by rw [h]; rfl
          have hv1 : er ≠ 0 → ∃ q, ee E er = .iface 169 (.pointer (some q)) := fun h => ee_some E h
          generalize ee E er = ev at *
          have HV := Lib.hid (And.intro hv0 hv1)
          clear hv0 hv1
          have hcl5 := hcl W5 (Stay.refl _ _)
          have k3' := cell_block hcl5 3
          have k2' := cell_block hcl5 2
          simp only [List.getElem?_toArray, List.getElem?_cons_zero, List.getElem?_cons_succ] at k2' k3'
          rw [← hW5] at k2' k3'
          have HW5 := Lib.hid hW5
          have HP := Lib.hid hpu
          have HCl := Lib.hid hcl
          have HEr := Lib.hid hern
          have HLe := Lib.hid (And.intro hle hmm)
          have hk0 : decide ((k : Int) < 0) = false := decide_eq_false (by omega)
          have hkb : k ≤ 200 := by omega
          clear hpu hcl hern hle hTu hT5 hTw hsp hll hcl5 hao hrd hB5 hs5 hW5
          go_wp2_with fail
          rw [HW5.out]
          with_reducible refine HP.out.mono ?_
          rintro e w6 ⟨rfl, hT6, hS6⟩
          have hc6 := HCl.out w6 hS6
          have q0 := cell_block hc6 0
          simp only [List.getElem?_toArray, List.getElem?_cons_zero, List.getElem?_cons_succ] at q0
          have HT6 := Lib.hid hT6
          have HQ0 := Lib.hid q0
          have hbu := (hT6.below (Below.refl _ _).drew).buffers
          have hfr := (hT6.below (Below.refl _ _).drew).free
          have hnd := hT6.nd
          have hz := HZC.out _ (hT6.below (Below.refl _ _).drew).B
          have HZ6 := Lib.hid hz
          have HBu := Lib.hid hbu
          have HFr := Lib.hid hfr
          have her := HEr.out
          have hkm := HLe.out.1
          rw [HLe.out.2] at hkm
          have HKm := Lib.hid hkm
          have HLm := Lib.hid HLe.out.2
          clear q0 hT6 hS6 hc6 hbu hfr hz HP HCl HEr k0 k1 k2 k3 k2' k3' hkm HLe
          go_upto_region 18 with (fail)
          go_cut [70] (fun gg W => gg = .bool false ∧ TwX wz W p x y (psd cx (bs.take k)) cy A C B S [wr.heap.size] ∧ W.cell? ⟨wr.heap.size, 0, none⟩ = some (.int .i64 kd))
          case first =>
            as_aux_lemma =>
              by_cases h0 : er = 0
              · obtain rfl := HV.out.1 h0
                clear her hnd
                go_wp2_with fail
                refine wp_region_noPanic ?_
                refine wp_region_held_drew (S := fun _ => True) (by kernel_rfl) (trivial) (fun hHeld => ?_)
                (refine wpAnyH_take (i := 0) (v := ?v0n1) (by simp only [List.getElem?_toArray, List.getElem?_cons_succ, List.getElem?_cons_zero]; rfl) (by kernel_rfl) (by kernel_rfl) (by kernel_rfl) (fun _ _ _ h => False.elim h) (Or.inl ⟨by rfl, ?hy0n1⟩) (by assumption) ?rest0n1; (case hy0n1 => (intro w hSw; (try dsimp only at hSw); go_simp; (try with_reducible rfl))); (try simp only [Act.put, List.setIfInBounds_toArray, List.set_cons_zero, List.set_cons_succ]))
                (refine wpAnyH_take (i := 1) (v := ?v1n2) (by simp only [List.getElem?_toArray, List.getElem?_cons_succ, List.getElem?_cons_zero]; rfl) (by kernel_rfl) (by kernel_rfl) (by kernel_rfl) (fun _ _ _ h => False.elim h) (Or.inl ⟨by rfl, ?hy1n2⟩) (by assumption) ?rest1n2; (case hy1n2 => (intro w hSw; (try dsimp only at hSw); go_simp; (try with_reducible rfl))); (try simp only [Act.put, List.setIfInBounds_toArray, List.set_cons_zero, List.set_cons_succ]))
                (refine wpAnyH_take (i := 2) (v := ?v2n3) (by simp only [List.getElem?_toArray, List.getElem?_cons_succ, List.getElem?_cons_zero]; rfl) (by kernel_rfl) (by kernel_rfl) (by kernel_rfl) (fun _ _ _ h => False.elim h) (Or.inl ⟨by rfl, ?hy2n3⟩) (by assumption) ?rest2n3; (case hy2n3 => (intro w hSw; (try dsimp only at hSw); go_simp; (try with_reducible rfl))); (try simp only [Act.put, List.setIfInBounds_toArray, List.set_cons_zero, List.set_cons_succ]))
                (refine wpAnyH_take (i := 3) (v := undef) (by simp only [List.getElem?_toArray, List.getElem?_cons_succ, List.getElem?_cons_zero]; rfl) (by kernel_rfl) (by kernel_rfl) (by kernel_rfl) (fun _ _ _ h => False.elim h) (Or.inr ⟨by rfl, rfl⟩) (by assumption) ?rest3s93; (try simp only [Act.put, List.setIfInBounds_toArray, List.set_cons_zero, List.set_cons_succ]))
                (refine wpAnyH_take (i := 4) (v := undef) (by simp only [List.getElem?_toArray, List.getElem?_cons_succ, List.getElem?_cons_zero]; rfl) (by kernel_rfl) (by kernel_rfl) (by kernel_rfl) (fun _ _ _ h => False.elim h) (Or.inr ⟨by rfl, rfl⟩) (by assumption) ?rest4s94; (try simp only [Act.put, List.setIfInBounds_toArray, List.set_cons_zero, List.set_cons_succ]))
                (refine wpAnyH_take (i := 5) (v := undef) (by simp only [List.getElem?_toArray, List.getElem?_cons_succ, List.getElem?_cons_zero]; rfl) (by kernel_rfl) (by kernel_rfl) (by kernel_rfl) (fun _ _ _ h => False.elim h) (Or.inr ⟨by rfl, rfl⟩) (by assumption) ?rest5s95; (try simp only [Act.put, List.setIfInBounds_toArray, List.set_cons_zero, List.set_cons_succ]))
                (refine wpAnyH_take (i := 6) (v := undef) (by simp only [List.getElem?_toArray, List.getElem?_cons_succ, List.getElem?_cons_zero]; rfl) (by kernel_rfl) (by kernel_rfl) (by kernel_rfl) (fun _ _ _ h => False.elim h) (Or.inr ⟨by rfl, rfl⟩) (by assumption) ?rest6s96; (try simp only [Act.put, List.setIfInBounds_toArray, List.set_cons_zero, List.set_cons_succ]))
                (refine wpAnyH_take (i := 7) (v := undef) (by simp only [List.getElem?_toArray, List.getElem?_cons_succ, List.getElem?_cons_zero]; rfl) (by kernel_rfl) (by kernel_rfl) (by kernel_rfl) (fun _ _ _ h => False.elim h) (Or.inr ⟨by rfl, rfl⟩) (by assumption) ?rest7s97; (try simp only [Act.put, List.setIfInBounds_toArray, List.set_cons_zero, List.set_cons_succ]))
                (refine wpAnyH_take (i := 8) (v := undef) (by simp only [List.getElem?_toArray, List.getElem?_cons_succ, List.getElem?_cons_zero]; rfl) (by kernel_rfl) (by kernel_rfl) (by kernel_rfl) (fun _ _ _ h => False.elim h) (Or.inr ⟨by rfl, rfl⟩) (by assumption) ?rest8s98; (try simp only [Act.put, List.setIfInBounds_toArray, List.set_cons_zero, List.set_cons_succ]))
                (refine wpAnyH_take (i := 9) (v := undef) (by simp only [List.getElem?_toArray, List.getElem?_cons_succ, List.getElem?_cons_zero]; rfl) (by kernel_rfl) (by kernel_rfl) (by kernel_rfl) (fun _ _ _ h => False.elim h) (Or.inr ⟨by rfl, rfl⟩) (by assumption) ?rest9s99; (try simp only [Act.put, List.setIfInBounds_toArray, List.set_cons_zero, List.set_cons_succ]))
                (refine wpAnyH_take (i := 10) (v := undef) (by simp only [List.getElem?_toArray, List.getElem?_cons_succ, List.getElem?_cons_zero]; rfl) (by kernel_rfl) (by kernel_rfl) (by kernel_rfl) (fun _ _ _ h => False.elim h) (Or.inr ⟨by rfl, rfl⟩) (by assumption) ?rest10s100; (try simp only [Act.put, List.setIfInBounds_toArray, List.set_cons_zero, List.set_cons_succ]))
                (refine wpAnyH_take (i := 11) (v := ?v11n4) (by simp only [List.getElem?_toArray, List.getElem?_cons_succ, List.getElem?_cons_zero]; rfl) (by kernel_rfl) (by kernel_rfl) (by kernel_rfl) (fun _ _ _ h => False.elim h) (Or.inl ⟨by rfl, ?hy11n4⟩) (by assumption) ?rest11n4; (case hy11n4 => (intro w hSw; (try dsimp only at hSw); go_simp; (try with_reducible rfl))); (try simp only [Act.put, List.setIfInBounds_toArray, List.set_cons_zero, List.set_cons_succ]))
                (refine wpAnyH_take (i := 12) (v := ?v12n5) (by simp only [List.getElem?_toArray, List.getElem?_cons_succ, List.getElem?_cons_zero]; rfl) (by kernel_rfl) (by kernel_rfl) (by kernel_rfl) (fun _ _ _ h => False.elim h) (Or.inl ⟨by rfl, ?hy12n5⟩) (by assumption) ?rest12n5; (case hy12n5 => (intro w hSw; (try dsimp only at hSw); go_simp; (try with_reducible rfl))); (try simp only [Act.put, List.setIfInBounds_toArray, List.set_cons_zero, List.set_cons_succ]))
                (refine wpAnyH_take (i := 13) (v := undef) (by simp only [List.getElem?_toArray, List.getElem?_cons_succ, List.getElem?_cons_zero]; rfl) (by kernel_rfl) (by kernel_rfl) (by kernel_rfl) (fun _ _ _ h => False.elim h) (Or.inr ⟨by rfl, rfl⟩) (by assumption) ?rest13s101; (try simp only [Act.put, List.setIfInBounds_toArray, List.set_cons_zero, List.set_cons_succ]))
                (refine wpAnyH_take (i := 14) (v := undef) (by simp only [List.getElem?_toArray, List.getElem?_cons_succ, List.getElem?_cons_zero]; rfl) (by kernel_rfl) (by kernel_rfl) (by kernel_rfl) (fun _ _ _ h => False.elim h) (Or.inr ⟨by rfl, rfl⟩) (by assumption) ?rest14s102; (try simp only [Act.put, List.setIfInBounds_toArray, List.set_cons_zero, List.set_cons_succ]))
                (refine wpAnyH_take (i := 15) (v := undef) (by simp only [List.getElem?_toArray, List.getElem?_cons_succ, List.getElem?_cons_zero]; rfl) (by kernel_rfl) (by kernel_rfl) (by kernel_rfl) (fun _ _ _ h => False.elim h) (Or.inr ⟨by rfl, rfl⟩) (by assumption) ?rest15s103; (try simp only [Act.put, List.setIfInBounds_toArray, List.set_cons_zero, List.set_cons_succ]))
                (refine wpAnyH_take (i := 16) (v := ?v16n6) (by simp only [List.getElem?_toArray, List.getElem?_cons_succ, List.getElem?_cons_zero]; rfl) (by kernel_rfl) (by kernel_rfl) (by kernel_rfl) (fun _ _ _ h => False.elim h) (Or.inl ⟨by rfl, ?hy16n6⟩) (by assumption) ?rest16n6; (case hy16n6 => (intro w hSw; (try dsimp only at hSw); go_simp; (try with_reducible rfl))); (try simp only [Act.put, List.setIfInBounds_toArray, List.set_cons_zero, List.set_cons_succ]))
                (refine wpAnyH_take (i := 17) (v := ?v17n7) (by simp only [List.getElem?_toArray, List.getElem?_cons_succ, List.getElem?_cons_zero]; rfl) (by kernel_rfl) (by kernel_rfl) (by kernel_rfl) (fun _ _ _ h => False.elim h) (Or.inl ⟨by rfl, ?hy17n7⟩) (by assumption) ?rest17n7; (case hy17n7 => (intro w hSw; (try dsimp only at hSw); go_simp; (try with_reducible rfl))); (try simp only [Act.put, List.setIfInBounds_toArray, List.set_cons_zero, List.set_cons_succ]))
                (refine wpAnyH_take (i := 18) (v := ?v18n8) (by simp only [List.getElem?_toArray, List.getElem?_cons_succ, List.getElem?_cons_zero]; rfl) (by kernel_rfl) (by kernel_rfl) (by kernel_rfl) (fun _ _ _ h => False.elim h) (Or.inl ⟨by rfl, ?hy18n8⟩) (by assumption) ?rest18n8; (case hy18n8 => (intro w hSw; (try dsimp only at hSw); go_simp; (try with_reducible rfl))); (try simp only [Act.put, List.setIfInBounds_toArray, List.set_cons_zero, List.set_cons_succ]))
                (refine wpAnyH_take (i := 19) (v := ?v19n9) (by simp only [List.getElem?_toArray, List.getElem?_cons_succ, List.getElem?_cons_zero]; rfl) (by kernel_rfl) (by kernel_rfl) (by kernel_rfl) (fun _ _ _ h => False.elim h) (Or.inl ⟨by rfl, ?hy19n9⟩) (by assumption) ?rest19n9; (case hy19n9 => (intro w hSw; (try dsimp only at hSw); go_simp; (try with_reducible rfl))); (try simp only [Act.put, List.setIfInBounds_toArray, List.set_cons_zero, List.set_cons_succ]))
                (refine wpAnyH_take (i := 20) (v := ?v20n10) (by simp only [List.getElem?_toArray, List.getElem?_cons_succ, List.getElem?_cons_zero]; rfl) (by kernel_rfl) (by kernel_rfl) (by kernel_rfl) (fun _ _ _ h => False.elim h) (Or.inl ⟨by rfl, ?hy20n10⟩) (by assumption) ?rest20n10; (case hy20n10 => (intro w hSw; (try dsimp only at hSw); go_simp; (try with_reducible rfl))); (try simp only [Act.put, List.setIfInBounds_toArray, List.set_cons_zero, List.set_cons_succ]))
                refine wpAnyH_done (by kernel_rfl) ?_ _
                refine NoPanic.normal ?_
                clear hHeld
                go_wp2_with fail
                go_meet
                case rel => first | exact ⟨rfl, HT6.out.below (Below.refl _ _).drew, HQ0.out⟩ | ((repeat apply Exists.intro); refine ⟨?r, ?f⟩; (case f => (and_intros <;> rfl)); exact ⟨rfl, HT6.out.below (Below.refl _ _).drew, HQ0.out⟩)
              · obtain ⟨qe, rfl⟩ := HV.out.2 h0
                have hor := her h0
                clear her
                generalize need S (psd cx (bs.take k)).frm (psd cx (bs.take k)).all.length = nu at *
                generalize need S cy.frm cy.all.length = nv at *
                have HZ7 := Lib.hid (And.intro HZ6.out.2.2.1 HZ6.out.2.2.2)
                have HBu7 := Lib.hid HBu.out
                have HFr7 := Lib.hid HFr.out
                have hmin : min (A : Int) (C : Int) = ((min A C : Nat) : Int) := by omega
                have hnu : nu ≤ 1000 := by have := HNum.out.2.1; omega
                by_cases hlt : nu < min A C
                · have hB0 : B - (nu + nv) = 0 := by omega
                  have hB1 : B - (nv + nu) = 0 := by omega
                  try rw [hB0] at HFr7
                  try rw [hB1] at HFr7
                  have hd1 : decide (nu < min A C) = true := decide_eq_true hlt
                  clear hor hnd hB0 hB1
                  go_wp2_with fail
                  refine wp_region_noPanic ?_
                  refine wp_region_held_drew (S := fun W => W.cell? ⟨w.heap.size, 2, none⟩ = some (.int .i64 (A : Int)) ∧ W.cell? ⟨w.heap.size, 3, none⟩ = some (.int .i64 (C : Int))) (by kernel_rfl) (HZ7.out) (fun hHeld => ?_)
                  (refine wpAnyH_take (i := 0) (v := ?v0n11) (by simp only [List.getElem?_toArray, List.getElem?_cons_succ, List.getElem?_cons_zero]; rfl) (by kernel_rfl) (by kernel_rfl) (by kernel_rfl) (fun _ _ _ h => False.elim h) (Or.inl ⟨by rfl, ?hy0n11⟩) (by assumption) ?rest0n11; (case hy0n11 => (intro w hSw; (try dsimp only at hSw); go_simp; (try with_reducible rfl))); (try simp only [Act.put, List.setIfInBounds_toArray, List.set_cons_zero, List.set_cons_succ]))
                  (refine wpAnyH_take (i := 1) (v := ?v1n12) (by simp only [List.getElem?_toArray, List.getElem?_cons_succ, List.getElem?_cons_zero]; rfl) (by kernel_rfl) (by kernel_rfl) (by kernel_rfl) (fun _ _ _ h => False.elim h) (Or.inl ⟨by rfl, ?hy1n12⟩) (by assumption) ?rest1n12; (case hy1n12 => (intro w hSw; (try dsimp only at hSw); go_simp; (try with_reducible rfl))); (try simp only [Act.put, List.setIfInBounds_toArray, List.set_cons_zero, List.set_cons_succ]))
                  (refine wpAnyH_take (i := 2) (v := ?v2n13) (by simp only [List.getElem?_toArray, List.getElem?_cons_succ, List.getElem?_cons_zero]; rfl) (by kernel_rfl) (by kernel_rfl) (by kernel_rfl) (fun _ _ _ h => False.elim h) (Or.inl ⟨by rfl, ?hy2n13⟩) (by assumption) ?rest2n13; (case hy2n13 => (intro w hSw; (try dsimp only at hSw); go_simp; (try with_reducible rfl))); (try simp only [Act.put, List.setIfInBounds_toArray, List.set_cons_zero, List.set_cons_succ]))
                  (refine wpAnyH_take (i := 3) (v := ?v3n14) (by simp only [List.getElem?_toArray, List.getElem?_cons_succ, List.getElem?_cons_zero]; rfl) (by kernel_rfl) (by kernel_rfl) (by kernel_rfl) (fun _ _ _ h => False.elim h) (Or.inl ⟨by rfl, ?hy3n14⟩) (by assumption) ?rest3n14; (case hy3n14 => (intro w hSw; (try dsimp only at hSw); go_simp; (try with_reducible rfl))); (try simp only [Act.put, List.setIfInBounds_toArray, List.set_cons_zero, List.set_cons_succ]))
                  (refine wpAnyH_take (i := 5) (v := ?v5n15) (by simp only [List.getElem?_toArray, List.getElem?_cons_succ, List.getElem?_cons_zero]; rfl) (by kernel_rfl) (by kernel_rfl) (by kernel_rfl) (fun _ _ _ h => False.elim h) (Or.inl ⟨by rfl, ?hy5n15⟩) (by assumption) ?rest5n15; (case hy5n15 => (intro w hSw; (try dsimp only at hSw); go_simp; (try with_reducible rfl))); (try simp only [Act.put, List.setIfInBounds_toArray, List.set_cons_zero, List.set_cons_succ]))
                  (refine wpAnyH_take (i := 6) (v := ?v6n16) (by simp only [List.getElem?_toArray, List.getElem?_cons_succ, List.getElem?_cons_zero]; rfl) (by kernel_rfl) (by kernel_rfl) (by kernel_rfl) (fun _ _ _ h => False.elim h) (Or.inl ⟨by rfl, ?hy6n16⟩) (by assumption) ?rest6n16; (case hy6n16 => (intro w hSw; (try dsimp only at hSw); go_simp; (try with_reducible rfl))); (try simp only [Act.put, List.setIfInBounds_toArray, List.set_cons_zero, List.set_cons_succ]))
                  (refine wpAnyH_take (i := 7) (v := ?v7n17) (by simp only [List.getElem?_toArray, List.getElem?_cons_succ, List.getElem?_cons_zero]; rfl) (by kernel_rfl) (by kernel_rfl) (by kernel_rfl) (fun _ _ _ h => False.elim h) (Or.inl ⟨by rfl, ?hy7n17⟩) (by assumption) ?rest7n17; (case hy7n17 => (intro w hSw; (try dsimp only at hSw); go_simp; (try with_reducible rfl))); (try simp only [Act.put, List.setIfInBounds_toArray, List.set_cons_zero, List.set_cons_succ]))
                  (refine wpAnyH_take (i := 8) (v := ?v8n18) (by simp only [List.getElem?_toArray, List.getElem?_cons_succ, List.getElem?_cons_zero]; rfl) (by kernel_rfl) (by kernel_rfl) (by kernel_rfl) (fun _ _ _ h => False.elim h) (Or.inl ⟨by rfl, ?hy8n18⟩) (by assumption) ?rest8n18; (case hy8n18 => (intro w hSw; (try dsimp only at hSw); go_simp; (try with_reducible rfl))); (try simp only [Act.put, List.setIfInBounds_toArray, List.set_cons_zero, List.set_cons_succ]))
                  (refine wpAnyH_take (i := 9) (v := ?v9n19) (by simp only [List.getElem?_toArray, List.getElem?_cons_succ, List.getElem?_cons_zero]; rfl) (by kernel_rfl) (by kernel_rfl) (by kernel_rfl) (fun _ _ _ h => False.elim h) (Or.inl ⟨by rfl, ?hy9n19⟩) (by assumption) ?rest9n19; (case hy9n19 => (intro w hSw; (try dsimp only at hSw); go_simp; (try with_reducible rfl))); (try simp only [Act.put, List.setIfInBounds_toArray, List.set_cons_zero, List.set_cons_succ]))
                  (refine wpAnyH_ready (rs := [4]) (by kernel_rfl) (by simp) ?_; refine AllReadyH.cons (o := _) (by simp only [List.getElem?_toArray, List.getElem?_cons_succ, List.getElem?_cons_zero]; rfl) (fun K hK => ?_) AllReadyH.nil; go_simp; ((with_reducible refine HBu7.out.mono ?_); rintro e w7 ⟨rfl, rfl⟩); refine hK.out _ _ (by exact HZ7.out) (fun hHeld => ?_); clear hK K; (try simp only [Act.put, List.setIfInBounds_toArray, List.set_cons_zero, List.set_cons_succ]))
                  (refine wpAnyH_take (i := 10) (v := ?v10n20) (by simp only [List.getElem?_toArray, List.getElem?_cons_succ, List.getElem?_cons_zero]; rfl) (by kernel_rfl) (by kernel_rfl) (by kernel_rfl) (fun _ _ _ h => False.elim h) (Or.inl ⟨by rfl, ?hy10n20⟩) (by assumption) ?rest10n20; (case hy10n20 => (intro w hSw; (try dsimp only at hSw); go_simp; (try with_reducible rfl))); (try simp only [Act.put, List.setIfInBounds_toArray, List.set_cons_zero, List.set_cons_succ]))
                  (refine wpAnyH_take (i := 11) (v := ?v11n21) (by simp only [List.getElem?_toArray, List.getElem?_cons_succ, List.getElem?_cons_zero]; rfl) (by kernel_rfl) (by kernel_rfl) (by kernel_rfl) (fun _ _ _ h => False.elim h) (Or.inl ⟨by rfl, ?hy11n21⟩) (by assumption) ?rest11n21; (case hy11n21 => (intro w hSw; (try dsimp only at hSw); go_simp; (try with_reducible rfl))); (try simp only [Act.put, List.setIfInBounds_toArray, List.set_cons_zero, List.set_cons_succ]))
                  (refine wpAnyH_take (i := 12) (v := ?v12n22) (by simp only [List.getElem?_toArray, List.getElem?_cons_succ, List.getElem?_cons_zero]; rfl) (by kernel_rfl) (by kernel_rfl) (by kernel_rfl) (fun _ _ _ h => False.elim h) (Or.inl ⟨by rfl, ?hy12n22⟩) (by assumption) ?rest12n22; (case hy12n22 => (intro w hSw; (try dsimp only at hSw); go_simp; (try with_reducible rfl))); (try simp only [Act.put, List.setIfInBounds_toArray, List.set_cons_zero, List.set_cons_succ]))
                  (refine wpAnyH_take (i := 13) (v := ?v13n23) (by simp only [List.getElem?_toArray, List.getElem?_cons_succ, List.getElem?_cons_zero]; rfl) (by kernel_rfl) (by kernel_rfl) (by kernel_rfl) (fun _ _ _ h => False.elim h) (Or.inl ⟨by rfl, ?hy13n23⟩) (by assumption) ?rest13n23; (case hy13n23 => (intro w hSw; (try dsimp only at hSw); go_simp; (try with_reducible rfl))); (try simp only [Act.put, List.setIfInBounds_toArray, List.set_cons_zero, List.set_cons_succ]))
                  (refine wpAnyH_ready (rs := [14]) (by kernel_rfl) (by simp) ?_; refine AllReadyH.cons (o := _) (by simp only [List.getElem?_toArray, List.getElem?_cons_succ, List.getElem?_cons_zero]; rfl) (fun K hK => ?_) AllReadyH.nil; go_simp; ((with_reducible refine HFr7.out.mono ?_); rintro e w7 ⟨rfl, rfl⟩); refine hK.out _ _ (by exact HZ7.out) (fun hHeld => ?_); clear hK K; (try simp only [Act.put, List.setIfInBounds_toArray, List.set_cons_zero, List.set_cons_succ]))
                  (refine wpAnyH_take (i := 15) (v := ?v15n24) (by simp only [List.getElem?_toArray, List.getElem?_cons_succ, List.getElem?_cons_zero]; rfl) (by kernel_rfl) (by kernel_rfl) (by kernel_rfl) (fun _ _ _ h => False.elim h) (Or.inl ⟨by rfl, ?hy15n24⟩) (by assumption) ?rest15n24; (case hy15n24 => (intro w hSw; (try dsimp only at hSw); go_simp; (try with_reducible rfl))); (try simp only [Act.put, List.setIfInBounds_toArray, List.set_cons_zero, List.set_cons_succ]))
                  (refine wpAnyH_take (i := 16) (v := ?v16n25) (by simp only [List.getElem?_toArray, List.getElem?_cons_succ, List.getElem?_cons_zero]; rfl) (by kernel_rfl) (by kernel_rfl) (by kernel_rfl) (fun _ _ _ h => False.elim h) (Or.inl ⟨by rfl, ?hy16n25⟩) (by assumption) ?rest16n25; (case hy16n25 => (intro w hSw; (try dsimp only at hSw); go_simp; (try with_reducible rfl))); (try simp only [Act.put, List.setIfInBounds_toArray, List.set_cons_zero, List.set_cons_succ]))
                  (refine wpAnyH_take (i := 17) (v := ?v17n26) (by simp only [List.getElem?_toArray, List.getElem?_cons_succ, List.getElem?_cons_zero]; rfl) (by kernel_rfl) (by kernel_rfl) (by kernel_rfl) (fun _ _ _ h => False.elim h) (Or.inl ⟨by rfl, ?hy17n26⟩) (by assumption) ?rest17n26; (case hy17n26 => (intro w hSw; (try dsimp only at hSw); go_simp; (try with_reducible rfl))); (try simp only [Act.put, List.setIfInBounds_toArray, List.set_cons_zero, List.set_cons_succ]))
                  (refine wpAnyH_take (i := 18) (v := ?v18n27) (by simp only [List.getElem?_toArray, List.getElem?_cons_succ, List.getElem?_cons_zero]; rfl) (by kernel_rfl) (by kernel_rfl) (by kernel_rfl) (fun _ _ _ h => False.elim h) (Or.inl ⟨by rfl, ?hy18n27⟩) (by assumption) ?rest18n27; (case hy18n27 => (intro w hSw; (try dsimp only at hSw); go_simp; (try with_reducible rfl))); (try simp only [Act.put, List.setIfInBounds_toArray, List.set_cons_zero, List.set_cons_succ]))
                  (refine wpAnyH_take (i := 19) (v := ?v19n28) (by simp only [List.getElem?_toArray, List.getElem?_cons_succ, List.getElem?_cons_zero]; rfl) (by kernel_rfl) (by kernel_rfl) (by kernel_rfl) (fun _ _ _ h => False.elim h) (Or.inl ⟨by rfl, ?hy19n28⟩) (by assumption) ?rest19n28; (case hy19n28 => (intro w hSw; (try dsimp only at hSw); go_simp; (try with_reducible rfl))); (try simp only [Act.put, List.setIfInBounds_toArray, List.set_cons_zero, List.set_cons_succ]))
                  (refine wpAnyH_take (i := 20) (v := ?v20n29) (by simp only [List.getElem?_toArray, List.getElem?_cons_succ, List.getElem?_cons_zero]; rfl) (by kernel_rfl) (by kernel_rfl) (by kernel_rfl) (fun _ _ _ h => False.elim h) (Or.inl ⟨by rfl, ?hy20n29⟩) (by assumption) ?rest20n29; (case hy20n29 => (intro w hSw; (try dsimp only at hSw); go_simp; (try with_reducible rfl))); (try simp only [Act.put, List.setIfInBounds_toArray, List.set_cons_zero, List.set_cons_succ]))
                  refine wpAnyH_done (by kernel_rfl) ?_ _
                  refine NoPanic.normal ?_
                  clear hHeld
                  go_wp2_with fail
                  go_meet
                  case rel => first | exact ⟨rfl, HT6.out.below (Below.refl _ _).drew, HQ0.out⟩ | ((repeat apply Exists.intro); refine ⟨?r, ?f⟩; (case f => (and_intros <;> rfl)); exact ⟨rfl, HT6.out.below (Below.refl _ _).drew, HQ0.out⟩)
                · have hd1 : decide (nu < min A C) = false := decide_eq_false hlt
                  clear hor hnd
                  go_wp2_with fail
                  refine wp_region_noPanic ?_
                  refine wp_region_held_drew (S := fun W => W.cell? ⟨w.heap.size, 2, none⟩ = some (.int .i64 (A : Int)) ∧ W.cell? ⟨w.heap.size, 3, none⟩ = some (.int .i64 (C : Int))) (by kernel_rfl) (HZ7.out) (fun hHeld => ?_)
                  (refine wpAnyH_take (i := 0) (v := ?v0n30) (by simp only [List.getElem?_toArray, List.getElem?_cons_succ, List.getElem?_cons_zero]; rfl) (by kernel_rfl) (by kernel_rfl) (by kernel_rfl) (fun _ _ _ h => False.elim h) (Or.inl ⟨by rfl, ?hy0n30⟩) (by assumption) ?rest0n30; (case hy0n30 => (intro w hSw; (try dsimp only at hSw); go_simp; (try with_reducible rfl))); (try simp only [Act.put, List.setIfInBounds_toArray, List.set_cons_zero, List.set_cons_succ]))
                  (refine wpAnyH_take (i := 1) (v := ?v1n31) (by simp only [List.getElem?_toArray, List.getElem?_cons_succ, List.getElem?_cons_zero]; rfl) (by kernel_rfl) (by kernel_rfl) (by kernel_rfl) (fun _ _ _ h => False.elim h) (Or.inl ⟨by rfl, ?hy1n31⟩) (by assumption) ?rest1n31; (case hy1n31 => (intro w hSw; (try dsimp only at hSw); go_simp; (try with_reducible rfl))); (try simp only [Act.put, List.setIfInBounds_toArray, List.set_cons_zero, List.set_cons_succ]))
                  (refine wpAnyH_take (i := 2) (v := ?v2n32) (by simp only [List.getElem?_toArray, List.getElem?_cons_succ, List.getElem?_cons_zero]; rfl) (by kernel_rfl) (by kernel_rfl) (by kernel_rfl) (fun _ _ _ h => False.elim h) (Or.inl ⟨by rfl, ?hy2n32⟩) (by assumption) ?rest2n32; (case hy2n32 => (intro w hSw; (try dsimp only at hSw); go_simp; (try with_reducible rfl))); (try simp only [Act.put, List.setIfInBounds_toArray, List.set_cons_zero, List.set_cons_succ]))
                  (refine wpAnyH_take (i := 3) (v := ?v3n33) (by simp only [List.getElem?_toArray, List.getElem?_cons_succ, List.getElem?_cons_zero]; rfl) (by kernel_rfl) (by kernel_rfl) (by kernel_rfl) (fun _ _ _ h => False.elim h) (Or.inl ⟨by rfl, ?hy3n33⟩) (by assumption) ?rest3n33; (case hy3n33 => (intro w hSw; (try dsimp only at hSw); go_simp; (try with_reducible rfl))); (try simp only [Act.put, List.setIfInBounds_toArray, List.set_cons_zero, List.set_cons_succ]))
                  (refine wpAnyH_take (i := 5) (v := ?v5n34) (by simp only [List.getElem?_toArray, List.getElem?_cons_succ, List.getElem?_cons_zero]; rfl) (by kernel_rfl) (by kernel_rfl) (by kernel_rfl) (fun _ _ _ h => False.elim h) (Or.inl ⟨by rfl, ?hy5n34⟩) (by assumption) ?rest5n34; (case hy5n34 => (intro w hSw; (try dsimp only at hSw); go_simp; (try with_reducible rfl))); (try simp only [Act.put, List.setIfInBounds_toArray, List.set_cons_zero, List.set_cons_succ]))
                  (refine wpAnyH_take (i := 6) (v := ?v6n35) (by simp only [List.getElem?_toArray, List.getElem?_cons_succ, List.getElem?_cons_zero]; rfl) (by kernel_rfl) (by kernel_rfl) (by kernel_rfl) (fun _ _ _ h => False.elim h) (Or.inl ⟨by rfl, ?hy6n35⟩) (by assumption) ?rest6n35; (case hy6n35 => (intro w hSw; (try dsimp only at hSw); go_simp; (try with_reducible rfl))); (try simp only [Act.put, List.setIfInBounds_toArray, List.set_cons_zero, List.set_cons_succ]))
                  (refine wpAnyH_take (i := 7) (v := ?v7n36) (by simp only [List.getElem?_toArray, List.getElem?_cons_succ, List.getElem?_cons_zero]; rfl) (by kernel_rfl) (by kernel_rfl) (by kernel_rfl) (fun _ _ _ h => False.elim h) (Or.inl ⟨by rfl, ?hy7n36⟩) (by assumption) ?rest7n36; (case hy7n36 => (intro w hSw; (try dsimp only at hSw); go_simp; (try with_reducible rfl))); (try simp only [Act.put, List.setIfInBounds_toArray, List.set_cons_zero, List.set_cons_succ]))
                  (refine wpAnyH_take (i := 8) (v := ?v8n37) (by simp only [List.getElem?_toArray, List.getElem?_cons_succ, List.getElem?_cons_zero]; rfl) (by kernel_rfl) (by kernel_rfl) (by kernel_rfl) (fun _ _ _ h => False.elim h) (Or.inl ⟨by rfl, ?hy8n37⟩) (by assumption) ?rest8n37; (case hy8n37 => (intro w hSw; (try dsimp only at hSw); go_simp; (try with_reducible rfl))); (try simp only [Act.put, List.setIfInBounds_toArray, List.set_cons_zero, List.set_cons_succ]))
                  (refine wpAnyH_take (i := 9) (v := ?v9n38) (by simp only [List.getElem?_toArray, List.getElem?_cons_succ, List.getElem?_cons_zero]; rfl) (by kernel_rfl) (by kernel_rfl) (by kernel_rfl) (fun _ _ _ h => False.elim h) (Or.inl ⟨by rfl, ?hy9n38⟩) (by assumption) ?rest9n38; (case hy9n38 => (intro w hSw; (try dsimp only at hSw); go_simp; (try with_reducible rfl))); (try simp only [Act.put, List.setIfInBounds_toArray, List.set_cons_zero, List.set_cons_succ]))
                  (refine wpAnyH_ready (rs := [4]) (by kernel_rfl) (by simp) ?_; refine AllReadyH.cons (o := _) (by simp only [List.getElem?_toArray, List.getElem?_cons_succ, List.getElem?_cons_zero]; rfl) (fun K hK => ?_) AllReadyH.nil; go_simp; ((with_reducible refine HBu7.out.mono ?_); rintro e w7 ⟨rfl, rfl⟩); refine hK.out _ _ (by exact HZ7.out) (fun hHeld => ?_); clear hK K; (try simp only [Act.put, List.setIfInBounds_toArray, List.set_cons_zero, List.set_cons_succ]))
                  (refine wpAnyH_take (i := 10) (v := ?v10n39) (by simp only [List.getElem?_toArray, List.getElem?_cons_succ, List.getElem?_cons_zero]; rfl) (by kernel_rfl) (by kernel_rfl) (by kernel_rfl) (fun _ _ _ h => False.elim h) (Or.inl ⟨by rfl, ?hy10n39⟩) (by assumption) ?rest10n39; (case hy10n39 => (intro w hSw; (try dsimp only at hSw); go_simp; (try with_reducible rfl))); (try simp only [Act.put, List.setIfInBounds_toArray, List.set_cons_zero, List.set_cons_succ]))
                  (refine wpAnyH_take (i := 11) (v := ?v11n40) (by simp only [List.getElem?_toArray, List.getElem?_cons_succ, List.getElem?_cons_zero]; rfl) (by kernel_rfl) (by kernel_rfl) (by kernel_rfl) (fun _ _ _ h => False.elim h) (Or.inl ⟨by rfl, ?hy11n40⟩) (by assumption) ?rest11n40; (case hy11n40 => (intro w hSw; (try dsimp only at hSw); go_simp; (try with_reducible rfl))); (try simp only [Act.put, List.setIfInBounds_toArray, List.set_cons_zero, List.set_cons_succ]))
                  (refine wpAnyH_take (i := 12) (v := ?v12n41) (by simp only [List.getElem?_toArray, List.getElem?_cons_succ, List.getElem?_cons_zero]; rfl) (by kernel_rfl) (by kernel_rfl) (by kernel_rfl) (fun _ _ _ h => False.elim h) (Or.inl ⟨by rfl, ?hy12n41⟩) (by assumption) ?rest12n41; (case hy12n41 => (intro w hSw; (try dsimp only at hSw); go_simp; (try with_reducible rfl))); (try simp only [Act.put, List.setIfInBounds_toArray, List.set_cons_zero, List.set_cons_succ]))
                  (refine wpAnyH_take (i := 13) (v := undef) (by simp only [List.getElem?_toArray, List.getElem?_cons_succ, List.getElem?_cons_zero]; rfl) (by kernel_rfl) (by kernel_rfl) (by kernel_rfl) (fun _ _ _ h => False.elim h) (Or.inr ⟨by rfl, rfl⟩) (by assumption) ?rest13s104; (try simp only [Act.put, List.setIfInBounds_toArray, List.set_cons_zero, List.set_cons_succ]))
                  (refine wpAnyH_take (i := 14) (v := undef) (by simp only [List.getElem?_toArray, List.getElem?_cons_succ, List.getElem?_cons_zero]; rfl) (by kernel_rfl) (by kernel_rfl) (by kernel_rfl) (fun _ _ _ h => False.elim h) (Or.inr ⟨by rfl, rfl⟩) (by assumption) ?rest14s105; (try simp only [Act.put, List.setIfInBounds_toArray, List.set_cons_zero, List.set_cons_succ]))
                  (refine wpAnyH_take (i := 15) (v := undef) (by simp only [List.getElem?_toArray, List.getElem?_cons_succ, List.getElem?_cons_zero]; rfl) (by kernel_rfl) (by kernel_rfl) (by kernel_rfl) (fun _ _ _ h => False.elim h) (Or.inr ⟨by rfl, rfl⟩) (by assumption) ?rest15s106; (try simp only [Act.put, List.setIfInBounds_toArray, List.set_cons_zero, List.set_cons_succ]))
                  (refine wpAnyH_take (i := 16) (v := ?v16n42) (by simp only [List.getElem?_toArray, List.getElem?_cons_succ, List.getElem?_cons_zero]; rfl) (by kernel_rfl) (by kernel_rfl) (by kernel_rfl) (fun _ _ _ h => False.elim h) (Or.inl ⟨by rfl, ?hy16n42⟩) (by assumption) ?rest16n42; (case hy16n42 => (intro w hSw; (try dsimp only at hSw); go_simp; (try with_reducible rfl))); (try simp only [Act.put, List.setIfInBounds_toArray, List.set_cons_zero, List.set_cons_succ]))
                  (refine wpAnyH_take (i := 17) (v := ?v17n43) (by simp only [List.getElem?_toArray, List.getElem?_cons_succ, List.getElem?_cons_zero]; rfl) (by kernel_rfl) (by kernel_rfl) (by kernel_rfl) (fun _ _ _ h => False.elim h) (Or.inl ⟨by rfl, ?hy17n43⟩) (by assumption) ?rest17n43; (case hy17n43 => (intro w hSw; (try dsimp only at hSw); go_simp; (try with_reducible rfl))); (try simp only [Act.put, List.setIfInBounds_toArray, List.set_cons_zero, List.set_cons_succ]))
                  (refine wpAnyH_take (i := 18) (v := ?v18n44) (by simp only [List.getElem?_toArray, List.getElem?_cons_succ, List.getElem?_cons_zero]; rfl) (by kernel_rfl) (by kernel_rfl) (by kernel_rfl) (fun _ _ _ h => False.elim h) (Or.inl ⟨by rfl, ?hy18n44⟩) (by assumption) ?rest18n44; (case hy18n44 => (intro w hSw; (try dsimp only at hSw); go_simp; (try with_reducible rfl))); (try simp only [Act.put, List.setIfInBounds_toArray, List.set_cons_zero, List.set_cons_succ]))
                  (refine wpAnyH_take (i := 19) (v := ?v19n45) (by simp only [List.getElem?_toArray, List.getElem?_cons_succ, List.getElem?_cons_zero]; rfl) (by kernel_rfl) (by kernel_rfl) (by kernel_rfl) (fun _ _ _ h => False.elim h) (Or.inl ⟨by rfl, ?hy19n45⟩) (by assumption) ?rest19n45; (case hy19n45 => (intro w hSw; (try dsimp only at hSw); go_simp; (try with_reducible rfl))); (try simp only [Act.put, List.setIfInBounds_toArray, List.set_cons_zero, List.set_cons_succ]))
                  (refine wpAnyH_take (i := 20) (v := ?v20n46) (by simp only [List.getElem?_toArray, List.getElem?_cons_succ, List.getElem?_cons_zero]; rfl) (by kernel_rfl) (by kernel_rfl) (by kernel_rfl) (fun _ _ _ h => False.elim h) (Or.inl ⟨by rfl, ?hy20n46⟩) (by assumption) ?rest20n46; (case hy20n46 => (intro w hSw; (try dsimp only at hSw); go_simp; (try with_reducible rfl))); (try simp only [Act.put, List.setIfInBounds_toArray, List.set_cons_zero, List.set_cons_succ]))
                  refine wpAnyH_done (by kernel_rfl) ?_ _
                  refine NoPanic.normal ?_
                  clear hHeld
                  go_wp2_with fail
                  go_meet
                  case rel => first | exact ⟨rfl, HT6.out.below (Below.refl _ _).drew, HQ0.out⟩ | ((repeat apply Exists.intro); refine ⟨?r, ?f⟩; (case f => (and_intros <;> rfl)); exact ⟨rfl, HT6.out.below (Below.refl _ _).drew, HQ0.out⟩)
          case rest =>
            clear her hnd HT6 HQ0 HBu HFr HZ6
            obtain ⟨rfl, hT7, q0⟩ := hcut
            have hB12 := HNum.out.2.1
            have hkm := HKm.out
            have hlm := HLm.out
            by_cases hk1 : kd = 1
            · as_aux_lemma =>
                subst hk1
                have hcl := hT7.clear E HSz'.out (by simp only [psd, List.length_take]; omega)
                have HCl := Lib.hid hcl
                clear hcl hT7
                go_wp2_with fail
                with_reducible refine HCl.out.mono ?_
                rintro e w8 ⟨rfl, hT8, _⟩
                have hb8 := hT8.buffers
                have hl8 := hT8.len
                rw [(need_zero S _).1] at hb8
                rw [(need_zero S _).2] at hl8
                have HB8 := Lib.hid hb8
                have HL8 := Lib.hid hl8
                have HT8 := Lib.hid hT8
                clear hb8 hl8 hT8 q0 HCl
                go_wp2_with fail
                with_reducible refine HB8.out.mono ?_
                rintro e w9 ⟨rfl, rfl⟩
                go_wp2_with fail
                with_reducible refine HL8.out.mono ?_
                rintro e w9 ⟨rfl, rfl⟩
                clear HB8 HL8
                have hnd := (HT8.out).nd
                have hbx := fun nq => ((HT8.out).below (below_drewN (Below.refl _ _) nq)).buffers
                have hby := fun nq => ((HT8.out).below (below_drewN (Below.refl _ _) nq)).swap.buffers
                have hus := fun nq => ((HT8.out).below (below_drewN (Below.refl _ _) nq)).used
                rw [Int.natCast_add] at hus
                obtain ⟨e0, _⟩ := HZC.out _ (HT8.out).B
                generalize need S ((drp S (psd cx (bs.take k)) (psd cx (bs.take k)).all.length)).frm ((drp S (psd cx (bs.take k)) (psd cx (bs.take k)).all.length)).all.length = nx at *
                generalize need S (cy).frm (cy).all.length = ny at *
                have hle : decide ((B : Int) < (nx : Int) + (ny : Int)) = false := decide_eq_false (by omega)
                have hnb : nx ≤ 12 := by omega
                have hnb2 : ny ≤ 12 := by omega
                have HBx := Lib.hid hbx
                have HBy := Lib.hid hby
                have HUs := Lib.hid hus
                clear hbx hby hus hnd
                go_wp2_with fail
                go_quiet (first | (go_at_call 24; first | exact Calls.quiet_of_same ((HBx.out _).mono fun _ _ ⟨h1, h2⟩ => ⟨h1, h2.symm⟩) | exact Calls.quiet_of_same ((HBy.out _).mono fun _ _ ⟨h1, h2⟩ => ⟨h1, h2.symm⟩)) | (go_at_call 18; exact Calls.quiet_of_same ((HUs.out _).mono fun _ _ ⟨h1, h2⟩ => ⟨h1, h2.symm⟩)))
                go_wp2
                go_roundw
                case rel => first | exact ⟨j + 1, by omega, by go_num, _, _, ((HT8.out).below (below_drewN (Below.refl _ _) _)).keep (by simp), hax, hay, by simp only [psd, drp, List.length_take]; omega, by omega⟩ | ((repeat apply Exists.intro); refine ⟨?r, ?f⟩; (case f => (and_intros <;> rfl)); exact ⟨j + 1, by omega, by go_num, _, _, ((HT8.out).below (below_drewN (Below.refl _ _) _)).keep (by simp), hax, hay, by simp only [psd, drp, List.length_take]; omega, by omega⟩)
                case measure => simp [cj]; omega
            · as_aux_lemma =>
                have hkb1 : (kd == 1) = false := by simpa using hk1
                have HT7 := Lib.hid hT7
                clear hT7
                have hnd := (HT7.out).nd
                have hbx := fun nq => ((HT7.out).below (below_drewN (Below.refl _ _) nq)).buffers
                have hby := fun nq => ((HT7.out).below (below_drewN (Below.refl _ _) nq)).swap.buffers
                have hus := fun nq => ((HT7.out).below (below_drewN (Below.refl _ _) nq)).used
                rw [Int.natCast_add] at hus
                obtain ⟨e0, _⟩ := HZC.out _ (HT7.out).B
                generalize need S ((psd cx (bs.take k))).frm ((psd cx (bs.take k))).all.length = nx at *
                generalize need S (cy).frm (cy).all.length = ny at *
                have hle : decide ((B : Int) < (nx : Int) + (ny : Int)) = false := decide_eq_false (by omega)
                have hnb : nx ≤ 12 := by omega
                have hnb2 : ny ≤ 12 := by omega
                have HBx := Lib.hid hbx
                have HBy := Lib.hid hby
                have HUs := Lib.hid hus
                clear hbx hby hus hnd
                go_wp2_with fail
                go_quiet (first | (go_at_call 24; first | exact Calls.quiet_of_same ((HBx.out _).mono fun _ _ ⟨h1, h2⟩ => ⟨h1, h2.symm⟩) | exact Calls.quiet_of_same ((HBy.out _).mono fun _ _ ⟨h1, h2⟩ => ⟨h1, h2.symm⟩)) | (go_at_call 18; exact Calls.quiet_of_same ((HUs.out _).mono fun _ _ ⟨h1, h2⟩ => ⟨h1, h2.symm⟩)))
                go_wp2
                go_roundw
                case rel => first | exact ⟨j + 1, by omega, by go_num, _, _, ((HT7.out).below (below_drewN (Below.refl _ _) _)).keep (by simp), hax, hay, by simp only [psd, drp, List.length_take]; omega, by omega⟩ | ((repeat apply Exists.intro); refine ⟨?r, ?f⟩; (case f => (and_intros <;> rfl)); exact ⟨j + 1, by omega, by go_num, _, _, ((HT7.out).below (below_drewN (Below.refl _ _) _)).keep (by simp), hax, hay, by simp only [psd, drp, List.length_take]; omega, by omega⟩)
                case measure => simp [cj]; omega
        | true =>
          have hTu := hT5.swap
          have hpu := hTu.push E aa cp bs HSz'.out HTz.out (by omega) hrd
          have hsp := (psh_spec (one S cy.frm C (need S cx.frm cx.all.length) B) bs.length cy.all.length).2
          have hle := psh_le (one S cy.frm C (need S cx.frm cx.all.length) B) cy.all.length bs.length
          generalize psh (one S cy.frm C (need S cx.frm cx.all.length) B) cy.all.length bs.length = r at *
          obtain ⟨k, er⟩ := r
          simp only at hsp hle hpu
          have hcl := fun W (hS : Stay [wr.heap.size] W5 W) => (hS.block (by simp) (block_lt hs5)).trans hs5
          have hll : (cy.all ++ bs.take k).length = cy.all.length + k := by rw [List.length_append, List.length_take]; omega
          have hern : er ≠ 0 → C ≤ need S (psd cy (bs.take k)).frm (psd cy (bs.take k)).all.length ∨ B ≤ need S (psd cy (bs.take k)).frm (psd cy (bs.take k)).all.length + need S cx.frm cx.all.length := fun h => by
            rcases hsp with h1 | h1
            · exact absurd h1.2 h
            · have h2 := one_ne (h1.2.2 ▸ h1.2.1)
              simp only [psd]
              rw [hll]
              exact h2
          rw [hmm] at hpu
          have hv0 : er = 0 → ee E er = .nilIface := fun h => by rw [h]; rfl
          have hv1 : er ≠ 0 → ∃ q, ee E er = .iface 169 (.pointer (some q)) := fun h => ee_some E h
          generalize ee E er = ev at *
          have HV := Lib.hid (And.intro hv0 hv1)
          clear hv0 hv1
          have hcl5 := hcl W5 (Stay.refl _ _)
          have k3' := cell_block hcl5 3
          have k2' := cell_block hcl5 2
          simp only [List.getElem?_toArray, List.getElem?_cons_zero, List.getElem?_cons_succ] at k2' k3'
          rw [← hW5] at k2' k3'
          have HW5 := Lib.hid hW5
          have HP := Lib.hid hpu
          have HCl := Lib.hid hcl
          have HEr := Lib.hid hern
          have HLe := Lib.hid (And.intro hle hmm)
          have hk0 : decide ((k : Int) < 0) = false := decide_eq_false (by omega)
          have hkb : k ≤ 200 := by omega
          clear hpu hcl hern hle hTu hT5 hTw hsp hll hcl5 hao hrd hB5 hs5 hW5
          go_wp2_with fail
          rw [HW5.out]
          with_reducible refine HP.out.mono ?_
          rintro e w6 ⟨rfl, hT6, hS6⟩
          have hc6 := HCl.out w6 hS6
          have q0 := cell_block hc6 0
          simp only [List.getElem?_toArray, List.getElem?_cons_zero, List.getElem?_cons_succ] at q0
          have HT6 := Lib.hid hT6
          have HQ0 := Lib.hid q0
          have hbu := (hT6.below (Below.refl _ _).drew).buffers
          have hfr := (hT6.below (Below.refl _ _).drew).swap.free
          have hnd := hT6.nd
          have hz := HZC.out _ (hT6.below (Below.refl _ _).drew).B
          have HZ6 := Lib.hid hz
          have HBu := Lib.hid hbu
          have HFr := Lib.hid hfr
          have her := HEr.out
          have hkm := HLe.out.1
          rw [HLe.out.2] at hkm
          have HKm := Lib.hid hkm
          have HLm := Lib.hid HLe.out.2
          clear q0 hT6 hS6 hc6 hbu hfr hz HP HCl HEr k0 k1 k2 k3 k2' k3' hkm HLe
          go_upto_region 18 with (fail)
          go_cut [70] (fun gg W => gg = .bool false ∧ TwX wz W p y x (psd cy (bs.take k)) cx C A B S [wr.heap.size] ∧ W.cell? ⟨wr.heap.size, 0, none⟩ = some (.int .i64 kd))
          case first =>
            as_aux_lemma =>
              by_cases h0 : er = 0
              · obtain rfl := HV.out.1 h0
                clear her hnd
                go_wp2_with fail
                refine wp_region_noPanic ?_
                refine wp_region_held_drew (S := fun _ => True) (by kernel_rfl) (trivial) (fun hHeld => ?_)
                (refine wpAnyH_take (i := 0) (v := ?v0n47) (by simp only [List.getElem?_toArray, List.getElem?_cons_succ, List.getElem?_cons_zero]; rfl) (by kernel_rfl) (by kernel_rfl) (by kernel_rfl) (fun _ _ _ h => False.elim h) (Or.inl ⟨by rfl, ?hy0n47⟩) (by assumption) ?rest0n47; (case hy0n47 => (intro w hSw; (try dsimp only at hSw); go_simp; (try with_reducible rfl))); (try simp only [Act.put, List.setIfInBounds_toArray, List.set_cons_zero, List.set_cons_succ]))
                (refine wpAnyH_take (i := 1) (v := ?v1n48) (by simp only [List.getElem?_toArray, List.getElem?_cons_succ, List.getElem?_cons_zero]; rfl) (by kernel_rfl) (by kernel_rfl) (by kernel_rfl) (fun _ _ _ h => False.elim h) (Or.inl ⟨by rfl, ?hy1n48⟩) (by assumption) ?rest1n48; (case hy1n48 => (intro w hSw; (try dsimp only at hSw); go_simp; (try with_reducible rfl))); (try simp only [Act.put, List.setIfInBounds_toArray, List.set_cons_zero, List.set_cons_succ]))
                (refine wpAnyH_take (i := 2) (v := ?v2n49) (by simp only [List.getElem?_toArray, List.getElem?_cons_succ, List.getElem?_cons_zero]; rfl) (by kernel_rfl) (by kernel_rfl) (by kernel_rfl) (fun _ _ _ h => False.elim h) (Or.inl ⟨by rfl, ?hy2n49⟩) (by assumption) ?rest2n49; (case hy2n49 => (intro w hSw; (try dsimp only at hSw); go_simp; (try with_reducible rfl))); (try simp only [Act.put, List.setIfInBounds_toArray, List.set_cons_zero, List.set_cons_succ]))
                (refine wpAnyH_take (i := 3) (v := undef) (by simp only [List.getElem?_toArray, List.getElem?_cons_succ, List.getElem?_cons_zero]; rfl) (by kernel_rfl) (by kernel_rfl) (by kernel_rfl) (fun _ _ _ h => False.elim h) (Or.inr ⟨by rfl, rfl⟩) (by assumption) ?rest3s107; (try simp only [Act.put, List.setIfInBounds_toArray, List.set_cons_zero, List.set_cons_succ]))
                (refine wpAnyH_take (i := 4) (v := undef) (by simp only [List.getElem?_toArray, List.getElem?_cons_succ, List.getElem?_cons_zero]; rfl) (by kernel_rfl) (by kernel_rfl) (by kernel_rfl) (fun _ _ _ h => False.elim h) (Or.inr ⟨by rfl, rfl⟩) (by assumption) ?rest4s108; (try simp only [Act.put, List.setIfInBounds_toArray, List.set_cons_zero, List.set_cons_succ]))
                (refine wpAnyH_take (i := 5) (v := undef) (by simp only [List.getElem?_toArray, List.getElem?_cons_succ, List.getElem?_cons_zero]; rfl) (by kernel_rfl) (by kernel_rfl) (by kernel_rfl) (fun _ _ _ h => False.elim h) (Or.inr ⟨by rfl, rfl⟩) (by assumption) ?rest5s109; (try simp only [Act.put, List.setIfInBounds_toArray, List.set_cons_zero, List.set_cons_succ]))
                (refine wpAnyH_take (i := 6) (v := undef) (by simp only [List.getElem?_toArray, List.getElem?_cons_succ, List.getElem?_cons_zero]; rfl) (by kernel_rfl) (by kernel_rfl) (by kernel_rfl) (fun _ _ _ h => False.elim h) (Or.inr ⟨by rfl, rfl⟩) (by assumption) ?rest6s110; (try simp only [Act.put, List.setIfInBounds_toArray, List.set_cons_zero, List.set_cons_succ]))
                (refine wpAnyH_take (i := 7) (v := undef) (by simp only [List.getElem?_toArray, List.getElem?_cons_succ, List.getElem?_cons_zero]; rfl) (by kernel_rfl) (by kernel_rfl) (by kernel_rfl) (fun _ _ _ h => False.elim h) (Or.inr ⟨by rfl, rfl⟩) (by assumption) ?rest7s111; (try simp only [Act.put, List.setIfInBounds_toArray, List.set_cons_zero, List.set_cons_succ]))
                (refine wpAnyH_take (i := 8) (v := undef) (by simp only [List.getElem?_toArray, List.getElem?_cons_succ, List.getElem?_cons_zero]; rfl) (by kernel_rfl) (by kernel_rfl) (by kernel_rfl) (fun _ _ _ h => False.elim h) (Or.inr ⟨by rfl, rfl⟩) (by assumption) ?rest8s112; (try simp only [Act.put, List.setIfInBounds_toArray, List.set_cons_zero, List.set_cons_succ]))
                (refine wpAnyH_take (i := 9) (v := undef) (by simp only [List.getElem?_toArray, List.getElem?_cons_succ, List.getElem?_cons_zero]; rfl) (by kernel_rfl) (by kernel_rfl) (by kernel_rfl) (fun _ _ _ h => False.elim h) (Or.inr ⟨by rfl, rfl⟩) (by assumption) ?rest9s113; (try simp only [Act.put, List.setIfInBounds_toArray, List.set_cons_zero, List.set_cons_succ]))
                (refine wpAnyH_take (i := 10) (v := undef) (by simp only [List.getElem?_toArray, List.getElem?_cons_succ, List.getElem?_cons_zero]; rfl) (by kernel_rfl) (by kernel_rfl) (by kernel_rfl) (fun _ _ _ h => False.elim h) (Or.inr ⟨by rfl, rfl⟩) (by assumption) ?rest10s114; (try simp only [Act.put, List.setIfInBounds_toArray, List.set_cons_zero, List.set_cons_succ]))
                (refine wpAnyH_take (i := 11) (v := ?v11n50) (by simp only [List.getElem?_toArray, List.getElem?_cons_succ, List.getElem?_cons_zero]; rfl) (by kernel_rfl) (by kernel_rfl) (by kernel_rfl) (fun _ _ _ h => False.elim h) (Or.inl ⟨by rfl, ?hy11n50⟩) (by assumption) ?rest11n50; (case hy11n50 => (intro w hSw; (try dsimp only at hSw); go_simp; (try with_reducible rfl))); (try simp only [Act.put, List.setIfInBounds_toArray, List.set_cons_zero, List.set_cons_succ]))
                (refine wpAnyH_take (i := 12) (v := ?v12n51) (by simp only [List.getElem?_toArray, List.getElem?_cons_succ, List.getElem?_cons_zero]; rfl) (by kernel_rfl) (by kernel_rfl) (by kernel_rfl) (fun _ _ _ h => False.elim h) (Or.inl ⟨by rfl, ?hy12n51⟩) (by assumption) ?rest12n51; (case hy12n51 => (intro w hSw; (try dsimp only at hSw); go_simp; (try with_reducible rfl))); (try simp only [Act.put, List.setIfInBounds_toArray, List.set_cons_zero, List.set_cons_succ]))
                (refine wpAnyH_take (i := 13) (v := undef) (by simp only [List.getElem?_toArray, List.getElem?_cons_succ, List.getElem?_cons_zero]; rfl) (by kernel_rfl) (by kernel_rfl) (by kernel_rfl) (fun _ _ _ h => False.elim h) (Or.inr ⟨by rfl, rfl⟩) (by assumption) ?rest13s115; (try simp only [Act.put, List.setIfInBounds_toArray, List.set_cons_zero, List.set_cons_succ]))
                (refine wpAnyH_take (i := 14) (v := undef) (by simp only [List.getElem?_toArray, List.getElem?_cons_succ, List.getElem?_cons_zero]; rfl) (by kernel_rfl) (by kernel_rfl) (by kernel_rfl) (fun _ _ _ h => False.elim h) (Or.inr ⟨by rfl, rfl⟩) (by assumption) ?rest14s116; (try simp only [Act.put, List.setIfInBounds_toArray, List.set_cons_zero, List.set_cons_succ]))
                (refine wpAnyH_take (i := 15) (v := undef) (by simp only [List.getElem?_toArray, List.getElem?_cons_succ, List.getElem?_cons_zero]; rfl) (by kernel_rfl) (by kernel_rfl) (by kernel_rfl) (fun _ _ _ h => False.elim h) (Or.inr ⟨by rfl, rfl⟩) (by assumption) ?rest15s117; (try simp only [Act.put, List.setIfInBounds_toArray, List.set_cons_zero, List.set_cons_succ]))
                (refine wpAnyH_take (i := 16) (v := ?v16n52) (by simp only [List.getElem?_toArray, List.getElem?_cons_succ, List.getElem?_cons_zero]; rfl) (by kernel_rfl) (by kernel_rfl) (by kernel_rfl) (fun _ _ _ h => False.elim h) (Or.inl ⟨by rfl, ?hy16n52⟩) (by assumption) ?rest16n52; (case hy16n52 => (intro w hSw; (try dsimp only at hSw); go_simp; (try with_reducible rfl))); (try simp only [Act.put, List.setIfInBounds_toArray, List.set_cons_zero, List.set_cons_succ]))
                (refine wpAnyH_take (i := 17) (v := ?v17n53) (by simp only [List.getElem?_toArray, List.getElem?_cons_succ, List.getElem?_cons_zero]; rfl) (by kernel_rfl) (by kernel_rfl) (by kernel_rfl) (fun _ _ _ h => False.elim h) (Or.inl ⟨by rfl, ?hy17n53⟩) (by assumption) ?rest17n53; (case hy17n53 => (intro w hSw; (try dsimp only at hSw); go_simp; (try with_reducible rfl))); (try simp only [Act.put, List.setIfInBounds_toArray, List.set_cons_zero, List.set_cons_succ]))
                (refine wpAnyH_take (i := 18) (v := ?v18n54) (by simp only [List.getElem?_toArray, List.getElem?_cons_succ, List.getElem?_cons_zero]; rfl) (by kernel_rfl) (by kernel_rfl) (by kernel_rfl) (fun _ _ _ h => False.elim h) (Or.inl ⟨by rfl, ?hy18n54⟩) (by assumption) ?rest18n54; (case hy18n54 => (intro w hSw; (try dsimp only at hSw); go_simp; (try with_reducible rfl))); (try simp only [Act.put, List.setIfInBounds_toArray, List.set_cons_zero, List.set_cons_succ]))
                (refine wpAnyH_take (i := 19) (v := ?v19n55) (by simp only [List.getElem?_toArray, List.getElem?_cons_succ, List.getElem?_cons_zero]; rfl) (by kernel_rfl) (by kernel_rfl) (by kernel_rfl) (fun _ _ _ h => False.elim h) (Or.inl ⟨by rfl, ?hy19n55⟩) (by assumption) ?rest19n55; (case hy19n55 => (intro w hSw; (try dsimp only at hSw); go_simp; (try with_reducible rfl))); (try simp only [Act.put, List.setIfInBounds_toArray, List.set_cons_zero, List.set_cons_succ]))
                (refine wpAnyH_take (i := 20) (v := ?v20n56) (by simp only [List.getElem?_toArray, List.getElem?_cons_succ, List.getElem?_cons_zero]; rfl) (by kernel_rfl) (by kernel_rfl) (by kernel_rfl) (fun _ _ _ h => False.elim h) (Or.inl ⟨by rfl, ?hy20n56⟩) (by assumption) ?rest20n56; (case hy20n56 => (intro w hSw; (try dsimp only at hSw); go_simp; (try with_reducible rfl))); (try simp only [Act.put, List.setIfInBounds_toArray, List.set_cons_zero, List.set_cons_succ]))
                refine wpAnyH_done (by kernel_rfl) ?_ _
                refine NoPanic.normal ?_
                clear hHeld
                go_wp2_with fail
                go_meet
                case rel => first | exact ⟨rfl, HT6.out.below (Below.refl _ _).drew, HQ0.out⟩ | ((repeat apply Exists.intro); refine ⟨?r, ?f⟩; (case f => (and_intros <;> rfl)); exact ⟨rfl, HT6.out.below (Below.refl _ _).drew, HQ0.out⟩)
              · obtain ⟨qe, rfl⟩ := HV.out.2 h0
                have hor := her h0
                clear her
                generalize need S (psd cy (bs.take k)).frm (psd cy (bs.take k)).all.length = nu at *
                generalize need S cx.frm cx.all.length = nv at *
                have HZ7 := Lib.hid (And.intro HZ6.out.2.2.1 HZ6.out.2.2.2)
                have HBu7 := Lib.hid HBu.out
                have HFr7 := Lib.hid HFr.out
                have hmin : min (A : Int) (C : Int) = ((min A C : Nat) : Int) := by omega
                have hnu : nu ≤ 1000 := by have := HNum.out.2.1; omega
                by_cases hlt : nu < min A C
                · have hB0 : B - (nu + nv) = 0 := by omega
                  have hB1 : B - (nv + nu) = 0 := by omega
                  try rw [hB0] at HFr7
                  try rw [hB1] at HFr7
                  have hd1 : decide (nu < min A C) = true := decide_eq_true hlt
                  clear hor hnd hB0 hB1
                  go_wp2_with fail
                  refine wp_region_noPanic ?_
                  refine wp_region_held_drew (S := fun W => W.cell? ⟨w.heap.size, 2, none⟩ = some (.int .i64 (A : Int)) ∧ W.cell? ⟨w.heap.size, 3, none⟩ = some (.int .i64 (C : Int))) (by kernel_rfl) (HZ7.out) (fun hHeld => ?_)
                  (refine wpAnyH_take (i := 0) (v := ?v0n57) (by simp only [List.getElem?_toArray, List.getElem?_cons_succ, List.getElem?_cons_zero]; rfl) (by kernel_rfl) (by kernel_rfl) (by kernel_rfl) (fun _ _ _ h => False.elim h) (Or.inl ⟨by rfl, ?hy0n57⟩) (by assumption) ?rest0n57; (case hy0n57 => (intro w hSw; (try dsimp only at hSw); go_simp; (try with_reducible rfl))); (try simp only [Act.put, List.setIfInBounds_toArray, List.set_cons_zero, List.set_cons_succ]))
                  (refine wpAnyH_take (i := 1) (v := ?v1n58) (by simp only [List.getElem?_toArray, List.getElem?_cons_succ, List.getElem?_cons_zero]; rfl) (by kernel_rfl) (by kernel_rfl) (by kernel_rfl) (fun _ _ _ h => False.elim h) (Or.inl ⟨by rfl, ?hy1n58⟩) (by assumption) ?rest1n58; (case hy1n58 => (intro w hSw; (try dsimp only at hSw); go_simp; (try with_reducible rfl))); (try simp only [Act.put, List.setIfInBounds_toArray, List.set_cons_zero, List.set_cons_succ]))
                  (refine wpAnyH_take (i := 2) (v := ?v2n59) (by simp only [List.getElem?_toArray, List.getElem?_cons_succ, List.getElem?_cons_zero]; rfl) (by kernel_rfl) (by kernel_rfl) (by kernel_rfl) (fun _ _ _ h => False.elim h) (Or.inl ⟨by rfl, ?hy2n59⟩) (by assumption) ?rest2n59; (case hy2n59 => (intro w hSw; (try dsimp only at hSw); go_simp; (try with_reducible rfl))); (try simp only [Act.put, List.setIfInBounds_toArray, List.set_cons_zero, List.set_cons_succ]))
                  (refine wpAnyH_take (i := 3) (v := ?v3n60) (by simp only [List.getElem?_toArray, List.getElem?_cons_succ, List.getElem?_cons_zero]; rfl) (by kernel_rfl) (by kernel_rfl) (by kernel_rfl) (fun _ _ _ h => False.elim h) (Or.inl ⟨by rfl, ?hy3n60⟩) (by assumption) ?rest3n60; (case hy3n60 => (intro w hSw; (try dsimp only at hSw); go_simp; (try with_reducible rfl))); (try simp only [Act.put, List.setIfInBounds_toArray, List.set_cons_zero, List.set_cons_succ]))
                  (refine wpAnyH_take (i := 5) (v := ?v5n61) (by simp only [List.getElem?_toArray, List.getElem?_cons_succ, List.getElem?_cons_zero]; rfl) (by kernel_rfl) (by kernel_rfl) (by kernel_rfl) (fun _ _ _ h => False.elim h) (Or.inl ⟨by rfl, ?hy5n61⟩) (by assumption) ?rest5n61; (case hy5n61 => (intro w hSw; (try dsimp only at hSw); go_simp; (try with_reducible rfl))); (try simp only [Act.put, List.setIfInBounds_toArray, List.set_cons_zero, List.set_cons_succ]))
                  (refine wpAnyH_take (i := 6) (v := ?v6n62) (by simp only [List.getElem?_toArray, List.getElem?_cons_succ, List.getElem?_cons_zero]; rfl) (by kernel_rfl) (by kernel_rfl) (by kernel_rfl) (fun _ _ _ h => False.elim h) (Or.inl ⟨by rfl, ?hy6n62⟩) (by assumption) ?rest6n62; (case hy6n62 => (intro w hSw; (try dsimp only at hSw); go_simp; (try with_reducible rfl))); (try simp only [Act.put, List.setIfInBounds_toArray, List.set_cons_zero, List.set_cons_succ]))
                  (refine wpAnyH_take (i := 7) (v := ?v7n63) (by simp only [List.getElem?_toArray, List.getElem?_cons_succ, List.getElem?_cons_zero]; rfl) (by kernel_rfl) (by kernel_rfl) (by kernel_rfl) (fun _ _ _ h => False.elim h) (Or.inl ⟨by rfl, ?hy7n63⟩) (by assumption) ?rest7n63; (case hy7n63 => (intro w hSw; (try dsimp only at hSw); go_simp; (try with_reducible rfl))); (try simp only [Act.put, List.setIfInBounds_toArray, List.set_cons_zero, List.set_cons_succ]))
                  (refine wpAnyH_take (i := 8) (v := ?v8n64) (by simp only [List.getElem?_toArray, List.getElem?_cons_succ, List.getElem?_cons_zero]; rfl) (by kernel_rfl) (by kernel_rfl) (by kernel_rfl) (fun _ _ _ h => False.elim h) (Or.inl ⟨by rfl, ?hy8n64⟩) (by assumption) ?rest8n64; (case hy8n64 => (intro w hSw; (try dsimp only at hSw); go_simp; (try with_reducible rfl))); (try simp only [Act.put, List.setIfInBounds_toArray, List.set_cons_zero, List.set_cons_succ]))
                  (refine wpAnyH_take (i := 9) (v := ?v9n65) (by simp only [List.getElem?_toArray, List.getElem?_cons_succ, List.getElem?_cons_zero]; rfl) (by kernel_rfl) (by kernel_rfl) (by kernel_rfl) (fun _ _ _ h => False.elim h) (Or.inl ⟨by rfl, ?hy9n65⟩) (by assumption) ?rest9n65; (case hy9n65 => (intro w hSw; (try dsimp only at hSw); go_simp; (try with_reducible rfl))); (try simp only [Act.put, List.setIfInBounds_toArray, List.set_cons_zero, List.set_cons_succ]))
                  (refine wpAnyH_ready (rs := [4]) (by kernel_rfl) (by simp) ?_; refine AllReadyH.cons (o := _) (by simp only [List.getElem?_toArray, List.getElem?_cons_succ, List.getElem?_cons_zero]; rfl) (fun K hK => ?_) AllReadyH.nil; go_simp; ((with_reducible refine HBu7.out.mono ?_); rintro e w7 ⟨rfl, rfl⟩); refine hK.out _ _ (by exact HZ7.out) (fun hHeld => ?_); clear hK K; (try simp only [Act.put, List.setIfInBounds_toArray, List.set_cons_zero, List.set_cons_succ]))
                  (refine wpAnyH_take (i := 10) (v := ?v10n66) (by simp only [List.getElem?_toArray, List.getElem?_cons_succ, List.getElem?_cons_zero]; rfl) (by kernel_rfl) (by kernel_rfl) (by kernel_rfl) (fun _ _ _ h => False.elim h) (Or.inl ⟨by rfl, ?hy10n66⟩) (by assumption) ?rest10n66; (case hy10n66 => (intro w hSw; (try dsimp only at hSw); go_simp; (try with_reducible rfl))); (try simp only [Act.put, List.setIfInBounds_toArray, List.set_cons_zero, List.set_cons_succ]))
                  (refine wpAnyH_take (i := 11) (v := ?v11n67) (by simp only [List.getElem?_toArray, List.getElem?_cons_succ, List.getElem?_cons_zero]; rfl) (by kernel_rfl) (by kernel_rfl) (by kernel_rfl) (fun _ _ _ h => False.elim h) (Or.inl ⟨by rfl, ?hy11n67⟩) (by assumption) ?rest11n67; (case hy11n67 => (intro w hSw; (try dsimp only at hSw); go_simp; (try with_reducible rfl))); (try simp only [Act.put, List.setIfInBounds_toArray, List.set_cons_zero, List.set_cons_succ]))
                  (refine wpAnyH_take (i := 12) (v := ?v12n68) (by simp only [List.getElem?_toArray, List.getElem?_cons_succ, List.getElem?_cons_zero]; rfl) (by kernel_rfl) (by kernel_rfl) (by kernel_rfl) (fun _ _ _ h => False.elim h) (Or.inl ⟨by rfl, ?hy12n68⟩) (by assumption) ?rest12n68; (case hy12n68 => (intro w hSw; (try dsimp only at hSw); go_simp; (try with_reducible rfl))); (try simp only [Act.put, List.setIfInBounds_toArray, List.set_cons_zero, List.set_cons_succ]))
                  (refine wpAnyH_take (i := 13) (v := ?v13n69) (by simp only [List.getElem?_toArray, List.getElem?_cons_succ, List.getElem?_cons_zero]; rfl) (by kernel_rfl) (by kernel_rfl) (by kernel_rfl) (fun _ _ _ h => False.elim h) (Or.inl ⟨by rfl, ?hy13n69⟩) (by assumption) ?rest13n69; (case hy13n69 => (intro w hSw; (try dsimp only at hSw); go_simp; (try with_reducible rfl))); (try simp only [Act.put, List.setIfInBounds_toArray, List.set_cons_zero, List.set_cons_succ]))
                  (refine wpAnyH_ready (rs := [14]) (by kernel_rfl) (by simp) ?_; refine AllReadyH.cons (o := _) (by simp only [List.getElem?_toArray, List.getElem?_cons_succ, List.getElem?_cons_zero]; rfl) (fun K hK => ?_) AllReadyH.nil; go_simp; ((with_reducible refine HFr7.out.mono ?_); rintro e w7 ⟨rfl, rfl⟩); refine hK.out _ _ (by exact HZ7.out) (fun hHeld => ?_); clear hK K; (try simp only [Act.put, List.setIfInBounds_toArray, List.set_cons_zero, List.set_cons_succ]))
                  (refine wpAnyH_take (i := 15) (v := ?v15n70) (by simp only [List.getElem?_toArray, List.getElem?_cons_succ, List.getElem?_cons_zero]; rfl) (by kernel_rfl) (by kernel_rfl) (by kernel_rfl) (fun _ _ _ h => False.elim h) (Or.inl ⟨by rfl, ?hy15n70⟩) (by assumption) ?rest15n70; (case hy15n70 => (intro w hSw; (try dsimp only at hSw); go_simp; (try with_reducible rfl))); (try simp only [Act.put, List.setIfInBounds_toArray, List.set_cons_zero, List.set_cons_succ]))
                  (refine wpAnyH_take (i := 16) (v := ?v16n71) (by simp only [List.getElem?_toArray, List.getElem?_cons_succ, List.getElem?_cons_zero]; rfl) (by kernel_rfl) (by kernel_rfl) (by kernel_rfl) (fun _ _ _ h => False.elim h) (Or.inl ⟨by rfl, ?hy16n71⟩) (by assumption) ?rest16n71; (case hy16n71 => (intro w hSw; (try dsimp only at hSw); go_simp; (try with_reducible rfl))); (try simp only [Act.put, List.setIfInBounds_toArray, List.set_cons_zero, List.set_cons_succ]))
                  (refine wpAnyH_take (i := 17) (v := ?v17n72) (by simp only [List.getElem?_toArray, List.getElem?_cons_succ, List.getElem?_cons_zero]; rfl) (by kernel_rfl) (by kernel_rfl) (by kernel_rfl) (fun _ _ _ h => False.elim h) (Or.inl ⟨by rfl, ?hy17n72⟩) (by assumption) ?rest17n72; (case hy17n72 => (intro w hSw; (try dsimp only at hSw); go_simp; (try with_reducible rfl))); (try simp only [Act.put, List.setIfInBounds_toArray, List.set_cons_zero, List.set_cons_succ]))
                  (refine wpAnyH_take (i := 18) (v := ?v18n73) (by simp only [List.getElem?_toArray, List.getElem?_cons_succ, List.getElem?_cons_zero]; rfl) (by kernel_rfl) (by kernel_rfl) (by kernel_rfl) (fun _ _ _ h => False.elim h) (Or.inl ⟨by rfl, ?hy18n73⟩) (by assumption) ?rest18n73; (case hy18n73 => (intro w hSw; (try dsimp only at hSw); go_simp; (try with_reducible rfl))); (try simp only [Act.put, List.setIfInBounds_toArray, List.set_cons_zero, List.set_cons_succ]))
                  (refine wpAnyH_take (i := 19) (v := ?v19n74) (by simp only [List.getElem?_toArray, List.getElem?_cons_succ, List.getElem?_cons_zero]; rfl) (by kernel_rfl) (by kernel_rfl) (by kernel_rfl) (fun _ _ _ h => False.elim h) (Or.inl ⟨by rfl, ?hy19n74⟩) (by assumption) ?rest19n74; (case hy19n74 => (intro w hSw; (try dsimp only at hSw); go_simp; (try with_reducible rfl))); (try simp only [Act.put, List.setIfInBounds_toArray, List.set_cons_zero, List.set_cons_succ]))
                  (refine wpAnyH_take (i := 20) (v := ?v20n75) (by simp only [List.getElem?_toArray, List.getElem?_cons_succ, List.getElem?_cons_zero]; rfl) (by kernel_rfl) (by kernel_rfl) (by kernel_rfl) (fun _ _ _ h => False.elim h) (Or.inl ⟨by rfl, ?hy20n75⟩) (by assumption) ?rest20n75; (case hy20n75 => (intro w hSw; (try dsimp only at hSw); go_simp; (try with_reducible rfl))); (try simp only [Act.put, List.setIfInBounds_toArray, List.set_cons_zero, List.set_cons_succ]))
                  refine wpAnyH_done (by kernel_rfl) ?_ _
                  refine NoPanic.normal ?_
                  clear hHeld
                  go_wp2_with fail
                  go_meet
                  case rel => first | exact ⟨rfl, HT6.out.below (Below.refl _ _).drew, HQ0.out⟩ | ((repeat apply Exists.intro); refine ⟨?r, ?f⟩; (case f => (and_intros <;> rfl)); exact ⟨rfl, HT6.out.below (Below.refl _ _).drew, HQ0.out⟩)
                · have hd1 : decide (nu < min A C) = false := decide_eq_false hlt
                  clear hor hnd
                  go_wp2_with fail
                  refine wp_region_noPanic ?_
                  refine wp_region_held_drew (S := fun W => W.cell? ⟨w.heap.size, 2, none⟩ = some (.int .i64 (A : Int)) ∧ W.cell? ⟨w.heap.size, 3, none⟩ = some (.int .i64 (C : Int))) (by kernel_rfl) (HZ7.out) (fun hHeld => ?_)
                  (refine wpAnyH_take (i := 0) (v := ?v0n76) (by simp only [List.getElem?_toArray, List.getElem?_cons_succ, List.getElem?_cons_zero]; rfl) (by kernel_rfl) (by kernel_rfl) (by kernel_rfl) (fun _ _ _ h => False.elim h) (Or.inl ⟨by rfl, ?hy0n76⟩) (by assumption) ?rest0n76; (case hy0n76 => (intro w hSw; (try dsimp only at hSw); go_simp; (try with_reducible rfl))); (try simp only [Act.put, List.setIfInBounds_toArray, List.set_cons_zero, List.set_cons_succ]))
                  (refine wpAnyH_take (i := 1) (v := ?v1n77) (by simp only [List.getElem?_toArray, List.getElem?_cons_succ, List.getElem?_cons_zero]; rfl) (by kernel_rfl) (by kernel_rfl) (by kernel_rfl) (fun _ _ _ h => False.elim h) (Or.inl ⟨by rfl, ?hy1n77⟩) (by assumption) ?rest1n77; (case hy1n77 => (intro w hSw; (try dsimp only at hSw); go_simp; (try with_reducible rfl))); (try simp only [Act.put, List.setIfInBounds_toArray, List.set_cons_zero, List.set_cons_succ]))
                  (refine wpAnyH_take (i := 2) (v := ?v2n78) (by simp only [List.getElem?_toArray, List.getElem?_cons_succ, List.getElem?_cons_zero]; rfl) (by kernel_rfl) (by kernel_rfl) (by kernel_rfl) (fun _ _ _ h => False.elim h) (Or.inl ⟨by rfl, ?hy2n78⟩) (by assumption) ?rest2n78; (case hy2n78 => (intro w hSw; (try dsimp only at hSw); go_simp; (try with_reducible rfl))); (try simp only [Act.put, List.setIfInBounds_toArray, List.set_cons_zero, List.set_cons_succ]))
                  (refine wpAnyH_take (i := 3) (v := ?v3n79) (by simp only [List.getElem?_toArray, List.getElem?_cons_succ, List.getElem?_cons_zero]; rfl) (by kernel_rfl) (by kernel_rfl) (by kernel_rfl) (fun _ _ _ h => False.elim h) (Or.inl ⟨by rfl, ?hy3n79⟩) (by assumption) ?rest3n79; (case hy3n79 => (intro w hSw; (try dsimp only at hSw); go_simp; (try with_reducible rfl))); (try simp only [Act.put, List.setIfInBounds_toArray, List.set_cons_zero, List.set_cons_succ]))
                  (refine wpAnyH_take (i := 5) (v := ?v5n80) (by simp only [List.getElem?_toArray, List.getElem?_cons_succ, List.getElem?_cons_zero]; rfl) (by kernel_rfl) (by kernel_rfl) (by kernel_rfl) (fun _ _ _ h => False.elim h) (Or.inl ⟨by rfl, ?hy5n80⟩) (by assumption) ?rest5n80; (case hy5n80 => (intro w hSw; (try dsimp only at hSw); go_simp; (try with_reducible rfl))); (try simp only [Act.put, List.setIfInBounds_toArray, List.set_cons_zero, List.set_cons_succ]))
                  (refine wpAnyH_take (i := 6) (v := ?v6n81) (by simp only [List.getElem?_toArray, List.getElem?_cons_succ, List.getElem?_cons_zero]; rfl) (by kernel_rfl) (by kernel_rfl) (by kernel_rfl) (fun _ _ _ h => False.elim h) (Or.inl ⟨by rfl, ?hy6n81⟩) (by assumption) ?rest6n81; (case hy6n81 => (intro w hSw; (try dsimp only at hSw); go_simp; (try with_reducible rfl))); (try simp only [Act.put, List.setIfInBounds_toArray, List.set_cons_zero, List.set_cons_succ]))
                  (refine wpAnyH_take (i := 7) (v := ?v7n82) (by simp only [List.getElem?_toArray, List.getElem?_cons_succ, List.getElem?_cons_zero]; rfl) (by kernel_rfl) (by kernel_rfl) (by kernel_rfl) (fun _ _ _ h => False.elim h) (Or.inl ⟨by rfl, ?hy7n82⟩) (by assumption) ?rest7n82; (case hy7n82 => (intro w hSw; (try dsimp only at hSw); go_simp; (try with_reducible rfl))); (try simp only [Act.put, List.setIfInBounds_toArray, List.set_cons_zero, List.set_cons_succ]))
                  (refine wpAnyH_take (i := 8) (v := ?v8n83) (by simp only [List.getElem?_toArray, List.getElem?_cons_succ, List.getElem?_cons_zero]; rfl) (by kernel_rfl) (by kernel_rfl) (by kernel_rfl) (fun _ _ _ h => False.elim h) (Or.inl ⟨by rfl, ?hy8n83⟩) (by assumption) ?rest8n83; (case hy8n83 => (intro w hSw; (try dsimp only at hSw); go_simp; (try with_reducible rfl))); (try simp only [Act.put, List.setIfInBounds_toArray, List.set_cons_zero, List.set_cons_succ]))
                  (refine wpAnyH_take (i := 9) (v := ?v9n84) (by simp only [List.getElem?_toArray, List.getElem?_cons_succ, List.getElem?_cons_zero]; rfl) (by kernel_rfl) (by kernel_rfl) (by kernel_rfl) (fun _ _ _ h => False.elim h) (Or.inl ⟨by rfl, ?hy9n84⟩) (by assumption) ?rest9n84; (case hy9n84 => (intro w hSw; (try dsimp only at hSw); go_simp; (try with_reducible rfl))); (try simp only [Act.put, List.setIfInBounds_toArray, List.set_cons_zero, List.set_cons_succ]))
                  (refine wpAnyH_ready (rs := [4]) (by kernel_rfl) (by simp) ?_; refine AllReadyH.cons (o := _) (by simp only [List.getElem?_toArray, List.getElem?_cons_succ, List.getElem?_cons_zero]; rfl) (fun K hK => ?_) AllReadyH.nil; go_simp; ((with_reducible refine HBu7.out.mono ?_); rintro e w7 ⟨rfl, rfl⟩); refine hK.out _ _ (by exact HZ7.out) (fun hHeld => ?_); clear hK K; (try simp only [Act.put, List.setIfInBounds_toArray, List.set_cons_zero, List.set_cons_succ]))
                  (refine wpAnyH_take (i := 10) (v := ?v10n85) (by simp only [List.getElem?_toArray, List.getElem?_cons_succ, List.getElem?_cons_zero]; rfl) (by kernel_rfl) (by kernel_rfl) (by kernel_rfl) (fun _ _ _ h => False.elim h) (Or.inl ⟨by rfl, ?hy10n85⟩) (by assumption) ?rest10n85; (case hy10n85 => (intro w hSw; (try dsimp only at hSw); go_simp; (try with_reducible rfl))); (try simp only [Act.put, List.setIfInBounds_toArray, List.set_cons_zero, List.set_cons_succ]))
                  (refine wpAnyH_take (i := 11) (v := ?v11n86) (by simp only [List.getElem?_toArray, List.getElem?_cons_succ, List.getElem?_cons_zero]; rfl) (by kernel_rfl) (by kernel_rfl) (by kernel_rfl) (fun _ _ _ h => False.elim h) (Or.inl ⟨by rfl, ?hy11n86⟩) (by assumption) ?rest11n86; (case hy11n86 => (intro w hSw; (try dsimp only at hSw); go_simp; (try with_reducible rfl))); (try simp only [Act.put, List.setIfInBounds_toArray, List.set_cons_zero, List.set_cons_succ]))
                  (refine wpAnyH_take (i := 12) (v := ?v12n87) (by simp only [List.getElem?_toArray, List.getElem?_cons_succ, List.getElem?_cons_zero]; rfl) (by kernel_rfl) (by kernel_rfl) (by kernel_rfl) (fun _ _ _ h => False.elim h) (Or.inl ⟨by rfl, ?hy12n87⟩) (by assumption) ?rest12n87; (case hy12n87 => (intro w hSw; (try dsimp only at hSw); go_simp; (try with_reducible rfl))); (try simp only [Act.put, List.setIfInBounds_toArray, List.set_cons_zero, List.set_cons_succ]))
                  (refine wpAnyH_take (i := 13) (v := undef) (by simp only [List.getElem?_toArray, List.getElem?_cons_succ, List.getElem?_cons_zero]; rfl) (by kernel_rfl) (by kernel_rfl) (by kernel_rfl) (fun _ _ _ h => False.elim h) (Or.inr ⟨by rfl, rfl⟩) (by assumption) ?rest13s118; (try simp only [Act.put, List.setIfInBounds_toArray, List.set_cons_zero, List.set_cons_succ]))
                  (refine wpAnyH_take (i := 14) (v := undef) (by simp only [List.getElem?_toArray, List.getElem?_cons_succ, List.getElem?_cons_zero]; rfl) (by kernel_rfl) (by kernel_rfl) (by kernel_rfl) (fun _ _ _ h => False.elim h) (Or.inr ⟨by rfl, rfl⟩) (by assumption) ?rest14s119; (try simp only [Act.put, List.setIfInBounds_toArray, List.set_cons_zero, List.set_cons_succ]))
                  (refine wpAnyH_take (i := 15) (v := undef) (by simp only [List.getElem?_toArray, List.getElem?_cons_succ, List.getElem?_cons_zero]; rfl) (by kernel_rfl) (by kernel_rfl) (by kernel_rfl) (fun _ _ _ h => False.elim h) (Or.inr ⟨by rfl, rfl⟩) (by assumption) ?rest15s120; (try simp only [Act.put, List.setIfInBounds_toArray, List.set_cons_zero, List.set_cons_succ]))
                  (refine wpAnyH_take (i := 16) (v := ?v16n88) (by simp only [List.getElem?_toArray, List.getElem?_cons_succ, List.getElem?_cons_zero]; rfl) (by kernel_rfl) (by kernel_rfl) (by kernel_rfl) (fun _ _ _ h => False.elim h) (Or.inl ⟨by rfl, ?hy16n88⟩) (by assumption) ?rest16n88; (case hy16n88 => (intro w hSw; (try dsimp only at hSw); go_simp; (try with_reducible rfl))); (try simp only [Act.put, List.setIfInBounds_toArray, List.set_cons_zero, List.set_cons_succ]))
                  (refine wpAnyH_take (i := 17) (v := ?v17n89) (by simp only [List.getElem?_toArray, List.getElem?_cons_succ, List.getElem?_cons_zero]; rfl) (by kernel_rfl) (by kernel_rfl) (by kernel_rfl) (fun _ _ _ h => False.elim h) (Or.inl ⟨by rfl, ?hy17n89⟩) (by assumption) ?rest17n89; (case hy17n89 => (intro w hSw; (try dsimp only at hSw); go_simp; (try with_reducible rfl))); (try simp only [Act.put, List.setIfInBounds_toArray, List.set_cons_zero, List.set_cons_succ]))
                  (refine wpAnyH_take (i := 18) (v := ?v18n90) (by simp only [List.getElem?_toArray, List.getElem?_cons_succ, List.getElem?_cons_zero]; rfl) (by kernel_rfl) (by kernel_rfl) (by kernel_rfl) (fun _ _ _ h => False.elim h) (Or.inl ⟨by rfl, ?hy18n90⟩) (by assumption) ?rest18n90; (case hy18n90 => (intro w hSw; (try dsimp only at hSw); go_simp; (try with_reducible rfl))); (try simp only [Act.put, List.setIfInBounds_toArray, List.set_cons_zero, List.set_cons_succ]))
                  (refine wpAnyH_take (i := 19) (v := ?v19n91) (by simp only [List.getElem?_toArray, List.getElem?_cons_succ, List.getElem?_cons_zero]; rfl) (by kernel_rfl) (by kernel_rfl) (by kernel_rfl) (fun _ _ _ h => False.elim h) (Or.inl ⟨by rfl, ?hy19n91⟩) (by assumption) ?rest19n91; (case hy19n91 => (intro w hSw; (try dsimp only at hSw); go_simp; (try with_reducible rfl))); (try simp only [Act.put, List.setIfInBounds_toArray, List.set_cons_zero, List.set_cons_succ]))
                  (refine wpAnyH_take (i := 20) (v := ?v20n92) (by simp only [List.getElem?_toArray, List.getElem?_cons_succ, List.getElem?_cons_zero]; rfl) (by kernel_rfl) (by kernel_rfl) (by kernel_rfl) (fun _ _ _ h => False.elim h) (Or.inl ⟨by rfl, ?hy20n92⟩) (by assumption) ?rest20n92; (case hy20n92 => (intro w hSw; (try dsimp only at hSw); go_simp; (try with_reducible rfl))); (try simp only [Act.put, List.setIfInBounds_toArray, List.set_cons_zero, List.set_cons_succ]))
                  refine wpAnyH_done (by kernel_rfl) ?_ _
                  refine NoPanic.normal ?_
                  clear hHeld
                  go_wp2_with fail
                  go_meet
                  case rel => first | exact ⟨rfl, HT6.out.below (Below.refl _ _).drew, HQ0.out⟩ | ((repeat apply Exists.intro); refine ⟨?r, ?f⟩; (case f => (and_intros <;> rfl)); exact ⟨rfl, HT6.out.below (Below.refl _ _).drew, HQ0.out⟩)
          case rest =>
            clear her hnd HT6 HQ0 HBu HFr HZ6
            obtain ⟨rfl, hT7, q0⟩ := hcut
            have hB12 := HNum.out.2.1
            have hkm := HKm.out
            have hlm := HLm.out
            by_cases hk1 : kd = 1
            · as_aux_lemma =>
                subst hk1
                have hcl := hT7.clear E HSz'.out (by simp only [psd, List.length_take]; omega)
                have HCl := Lib.hid hcl
                clear hcl hT7
                go_wp2_with fail
                with_reducible refine HCl.out.mono ?_
                rintro e w8 ⟨rfl, hT8, _⟩
                have hb8 := hT8.buffers
                have hl8 := hT8.len
                rw [(need_zero S _).1] at hb8
                rw [(need_zero S _).2] at hl8
                have HB8 := Lib.hid hb8
                have HL8 := Lib.hid hl8
                have HT8 := Lib.hid hT8
                clear hb8 hl8 hT8 q0 HCl
                go_wp2_with fail
                with_reducible refine HB8.out.mono ?_
                rintro e w9 ⟨rfl, rfl⟩
                go_wp2_with fail
                with_reducible refine HL8.out.mono ?_
                rintro e w9 ⟨rfl, rfl⟩
                clear HB8 HL8
                have hnd := (HT8.out.swap).nd
                have hbx := fun nq => ((HT8.out.swap).below (below_drewN (Below.refl _ _) nq)).buffers
                have hby := fun nq => ((HT8.out.swap).below (below_drewN (Below.refl _ _) nq)).swap.buffers
                have hus := fun nq => ((HT8.out.swap).below (below_drewN (Below.refl _ _) nq)).used
                rw [Int.natCast_add] at hus
                obtain ⟨e0, _⟩ := HZC.out _ (HT8.out.swap).B
                generalize need S (cx).frm (cx).all.length = nx at *
                generalize need S ((drp S (psd cy (bs.take k)) (psd cy (bs.take k)).all.length)).frm ((drp S (psd cy (bs.take k)) (psd cy (bs.take k)).all.length)).all.length = ny at *
                have hle : decide ((B : Int) < (nx : Int) + (ny : Int)) = false := decide_eq_false (by omega)
                have hnb : nx ≤ 12 := by omega
                have hnb2 : ny ≤ 12 := by omega
                have HBx := Lib.hid hbx
                have HBy := Lib.hid hby
                have HUs := Lib.hid hus
                clear hbx hby hus hnd
                go_wp2_with fail
                go_quiet (first | (go_at_call 24; first | exact Calls.quiet_of_same ((HBx.out _).mono fun _ _ ⟨h1, h2⟩ => ⟨h1, h2.symm⟩) | exact Calls.quiet_of_same ((HBy.out _).mono fun _ _ ⟨h1, h2⟩ => ⟨h1, h2.symm⟩)) | (go_at_call 18; exact Calls.quiet_of_same ((HUs.out _).mono fun _ _ ⟨h1, h2⟩ => ⟨h1, h2.symm⟩)))
                go_wp2
                go_roundw
                case rel => first | exact ⟨j + 1, by omega, by go_num, _, _, ((HT8.out.swap).below (below_drewN (Below.refl _ _) _)).keep (by simp), hax, hay, by omega, by simp only [psd, drp, List.length_take]; omega⟩ | ((repeat apply Exists.intro); refine ⟨?r, ?f⟩; (case f => (and_intros <;> rfl)); exact ⟨j + 1, by omega, by go_num, _, _, ((HT8.out.swap).below (below_drewN (Below.refl _ _) _)).keep (by simp), hax, hay, by omega, by simp only [psd, drp, List.length_take]; omega⟩)
                case measure => simp [cj]; omega
            · as_aux_lemma =>
                have hkb1 : (kd == 1) = false := by simpa using hk1
                have HT7 := Lib.hid hT7
                clear hT7
                have hnd := (HT7.out.swap).nd
                have hbx := fun nq => ((HT7.out.swap).below (below_drewN (Below.refl _ _) nq)).buffers
                have hby := fun nq => ((HT7.out.swap).below (below_drewN (Below.refl _ _) nq)).swap.buffers
                have hus := fun nq => ((HT7.out.swap).below (below_drewN (Below.refl _ _) nq)).used
                rw [Int.natCast_add] at hus
                obtain ⟨e0, _⟩ := HZC.out _ (HT7.out.swap).B
                generalize need S (cx).frm (cx).all.length = nx at *
                generalize need S ((psd cy (bs.take k))).frm ((psd cy (bs.take k))).all.length = ny at *
                have hle : decide ((B : Int) < (nx : Int) + (ny : Int)) = false := decide_eq_false (by omega)
                have hnb : nx ≤ 12 := by omega
                have hnb2 : ny ≤ 12 := by omega
                have HBx := Lib.hid hbx
                have HBy := Lib.hid hby
                have HUs := Lib.hid hus
                clear hbx hby hus hnd
                go_wp2_with fail
                go_quiet (first | (go_at_call 24; first | exact Calls.quiet_of_same ((HBx.out _).mono fun _ _ ⟨h1, h2⟩ => ⟨h1, h2.symm⟩) | exact Calls.quiet_of_same ((HBy.out _).mono fun _ _ ⟨h1, h2⟩ => ⟨h1, h2.symm⟩)) | (go_at_call 18; exact Calls.quiet_of_same ((HUs.out _).mono fun _ _ ⟨h1, h2⟩ => ⟨h1, h2.symm⟩)))
                go_wp2
                go_roundw
                case rel => first | exact ⟨j + 1, by omega, by go_num, _, _, ((HT7.out.swap).below (below_drewN (Below.refl _ _) _)).keep (by simp), hax, hay, by omega, by simp only [psd, drp, List.length_take]; omega⟩ | ((repeat apply Exists.intro); refine ⟨?r, ?f⟩; (case f => (and_intros <;> rfl)); exact ⟨j + 1, by omega, by go_num, _, _, ((HT7.out.swap).below (below_drewN (Below.refl _ _) _)).keep (by simp), hax, hay, by omega, by simp only [psd, drp, List.length_take]; omega⟩)
                case measure => simp [cj]; omega
      · obtain rfl : j = N := by omega
        have hc1 := hTw.clear E HSz'.out (by omega)
        have HC1 := Lib.hid hc1
        have HA := Lib.hid (And.intro hax (And.intro hcy hN60))
        clear hTw hc1 hax hay hcx hcy
        go_wp2_with fail
        with_reducible refine HC1.out.mono ?_
        rintro e w5 ⟨rfl, hT5, _⟩
        have hc2 := hT5.swap.clear E HSz'.out (by have := HA.out.2.1; have := HA.out.2.2; omega)
        have HC2 := Lib.hid hc2
        clear hT5 hc2 HC1
        go_wp2_with fail
        with_reducible refine HC2.out.mono ?_
        rintro e w6 ⟨rfl, hT6, _⟩
        have hT6 := hT6.swap
        have hnw := hT6.new1 HA.out.1 (need_zero S cx).1
        have HNw := Lib.hid hnw
        have HT6 := Lib.hid hT6
        clear hT6 hnw HC2
        go_wp2_with fail
        with_reducible refine HNw.out.mono ?_
        rintro e w7 ⟨⟨k, rfl⟩, hb7⟩
        have hT7 := HT6.out.below hb7
        have hus := fun nq => (hT7.below (below_drewN (Below.refl _ _) nq)).used
        have hfr := fun nq => (hT7.below (below_drewN (Below.refl _ _) nq)).free
        rw [(need_zero S cx).1, (need_zero S cy).1] at hus hfr
        rw [Nat.sub_zero] at hfr
        obtain ⟨e0, _⟩ := HZC.out _ hT7.B
        have HUs := Lib.hid hus
        have HFr := Lib.hid hfr
        have HB7 := Lib.hid hT7.B
        clear hT7 hb7 hus hfr HNw HT6
        go_wp2_with fail
        go_quiet (first | (go_at_call 18; exact Calls.quiet_of_same ((HUs.out _).mono fun _ _ ⟨h1, h2⟩ => ⟨h1, h2.symm⟩)) | (go_at_call 19; exact Calls.quiet_of_same ((HFr.out _).mono fun _ _ ⟨h1, h2⟩ => ⟨h1, h2.symm⟩)))
        go_wp2
        go_ret
        exact ⟨rfl, HZ.out.2.2.trans ((below_drewN HB7.out _).mono HZ.out.2.2.size)⟩
end Ch
end Go.Proofs.YtpjimmdpcpcmoaaDoor
