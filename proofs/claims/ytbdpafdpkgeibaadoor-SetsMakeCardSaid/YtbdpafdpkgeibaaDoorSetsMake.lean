/- dofferlaw01.SetsMake returns true. Condition: the table of TrailingZeros64 reads as laid. -/
import Derived.Test.YtbdpafdpkgeibaaDoorSetsMix
import Derived.Test.YtbdpafdpkgeibaaDoorNum
namespace Go.Proofs.YtbdpafdpkgeibaaDoor
open Go Go.RowKit Kt
namespace St
open Mk
/-- The loop over the list. -/
def SmR (w : World) (l : List UInt8) (i : Value) (W : World) : Prop := ∃ k : Nat, k ≤ l.length ∧ i = .int .i64 (k : Int) ∧
  W.ownsRow w.heap.size 4 1 (.slice (some ⟨w.heap.size, 0, none⟩) 256 256) 256 (bools (mkl fun q => (l.take k).any fun c => decide (c.toNat = q))) ∧ Below w.heap.size w W
set_option maxHeartbeats 4000000 in
set_option maxRecDepth 100000 in
theorem make_small (lo hi : Nat) (hlo : lo < 256) (hhi : hi < 256) (a : Option Addr) (cap n : Nat) (l : List UInt8) (hn : l.length = n) (hl : n ≤ 1000) (hno : a = none → cap = 0 ∧ l.length = 0) (w : World) (hr : Rd w a (u8s l)) (hT : Bt.Tab w) : Calls Tryd.prog 7 #[.int .u8 (lo : Int), .int .u8 (hi : Int), .slice a n cap] w fun e w' => e = .returned (.bool true) ∧ Below w.heap.size w w' := by
  have hd : decide (1000 < (n : Int)) = false := by simp; omega
  have hwl : IntKind.i64.wrap (lo : Int) = (lo : Int) := IntWalk.i64_in _ ⟨by omega, by omega⟩
  have hwh : IntKind.i64.wrap (hi : Int) = (hi : Int) := IntWalk.i64_in _ ⟨by omega, by omega⟩
  obtain ⟨r1, h1⟩ := exists_set (fun q => decide (q = lo))
  obtain ⟨r2, h2⟩ := exists_set (fun q => decide (lo ≤ q) && decide (q ≤ hi))
  obtain ⟨r3, h3⟩ := exists_set (fun q => l.any fun c => decide (c.toNat = q))
  obtain ⟨r4, h4⟩ := exists_set (fun _ => true)
  have e1 := fun w => eq_run r1 r1 h1.len h1.len w
  have e2 := fun w => eq_run r2 r2 h2.len h2.len w
  have e3 := fun w => eq_run r3 r3 h3.len h3.len w
  have e4 := fun w => eq_run r4 r4 h4.len h4.len w
  have a1 := fun W => pin (one_c lo hlo W) h1 (fun _ _ => rfl)
  have b1 := fun W => pin (rspan_c lo lo hlo hlo W) h1 (fun c hc => by rw [Bool.eq_iff_iff]; simp; omega)
  have a2 := fun W => pin (span_c lo hi hlo hhi W) h2 (fun _ _ => rfl)
  have b2 := fun W => pin (rspan_c lo hi hlo hhi W) h2 (fun _ _ => rfl)
  have a4 := fun W => pin (all_c W) h4 (fun _ _ => rfl)
  have b4 : ∀ W, Calls Tryd.prog 34 #[.int .i64 0, .int .i64 255] W fun e w' => e = .returned (sv r4) ∧ Below W.heap.size W w' := fun W => pin (rspan_c 0 255 (by omega) (by omega) W) h4 (fun c hc => by simp; omega)
  have a3 : ∀ (g : Nat) W, Rd W (some ⟨g, 0, none⟩) (u8s l) → Calls Tryd.prog 32 #[.slice (some ⟨g, 0, none⟩) n (n + 6)] W fun e w' => e = .returned (sv r3) ∧ Below W.heap.size W w' := fun g W h => pin (of_c (some ⟨g, 0, none⟩) (n + 6) n l W hn (by omega) h) h3 (fun _ _ => rfl)
  have b3 : ∀ (g : Nat) W, Rd W (some ⟨g, 0, none⟩) (bools (mkl fun q => l.any fun c => decide (c.toNat = q))) → Calls Tryd.prog 36 #[.slice (some ⟨g, 0, none⟩) 256 256] W fun e w' => e = .returned (sv r3) ∧ Below W.heap.size W w' := fun g W h => pin (rof_c (some ⟨g, 0, none⟩) 256 256 _ W (mkl_len _) rfl h) h3 (fun c hc => mkl_get _ c hc)
  obtain ⟨p0, p1, p2, p3, rfl⟩ := four h1.len
  obtain ⟨q0, q1, q2, q3, rfl⟩ := four h2.len
  obtain ⟨s0, s1, s2, s3, rfl⟩ := four h3.len
  obtain ⟨t0, t1, t2, t3, rfl⟩ := four h4.len
  clear h1 h2 h3 h4
  simp only [sv, vals, List.map_cons, List.map_nil, decide_true] at a1 b1 a2 b2 a3 b3 a4 b4 e1 e2 e3 e4
  have A1 := Lib.hid a1
  have B1 := Lib.hid b1
  have A2 := Lib.hid a2
  have B2 := Lib.hid b2
  have A3 := Lib.hid a3
  have B3 := Lib.hid b3
  have A4 := Lib.hid a4
  have B4 := Lib.hid b4
  have HT := Lib.hid hT
  have HR := Lib.hid hr
  have Hn := Lib.hid hn
  have Hno := Lib.hid hno
  clear a1 b1 a2 b2 a3 b3 a4 b4 hT hr hn hno
  go_enter Tryd.func7, Tryd.ntmps7
  go_wp2_with fail
  refine (alive_c w HT.out).mono ?_
  rintro e w1 ⟨rfl, hb1⟩
  obtain ⟨w2, hmk, own, gr⟩ := elBool.make w1.heap.size w1 .i64 .i64 256 256 rfl (by omega) (by unfold maxLen; omega) (Nat.le_refl _)
  have hb2 : Below w1.heap.size w1 w2 := below_made gr (Nat.le_refl _)
  rw [zeros256] at own
  have HO := Lib.hid own
  have HB1 := Lib.hid hb1
  have HB2 := Lib.hid hb2
  clear own gr hb1 hb2
  go_wp2_with fail
  go_loopw [9, 20] (fun _ i W => SmR w1 l i W) (fun _ i _ => n - (intOf i).toNat)
  case atStart => exact ⟨0, Nat.zero_le _, rfl, by simpa using HO.out, HB2.out⟩
  case round =>
    obtain ⟨k, hk, rfl, hown, hB⟩ := hrel
    rw [Hn.out] at hk
    by_cases hlt : k < n
    · have hkl : k < l.length := by rw [Hn.out]; exact hlt
      obtain ⟨bb, off, ha, hc⟩ := (HR.out.keep (HB1.out.trans (hB.mono HB1.out.size))).u8 k hkl
      subst ha
      have hany : ∀ q, ((l.take (k + 1)).any fun c => decide (c.toNat = q)) = (((l.take k).any fun c => decide (c.toNat = q)) || decide (l[k].toNat = q)) := by
        intro q
        rw [← List.take_append_getElem hkl, List.any_append]
        simp only [List.any_cons, List.any_nil, Bool.or_false]
      have hc256 := l[k].toNat_lt
      generalize l[k].toNat = c at *
      have hcell : ∃ v, wr.cell? ⟨w1.heap.size, c, none⟩ = some v := by
        obtain ⟨bb, off, he, hcc⟩ := Rd.bool (Rd.own hown) c (by rw [mkl_len]; exact hc256)
        simp only [Option.some.injEq, Addr.mk.injEq, and_true] at he
        obtain ⟨rfl, rfl⟩ := he
        exact ⟨_, by simpa using hcc⟩
      obtain ⟨v0, hcell⟩ := hcell
      have hfz := hown.frozenAt c
      have hst := (World.ownsRow.stored hown c (.bool true)).1
      have hm2 : ∀ q, q < 256 → q ≠ c → ((l.take (k + 1)).any fun c => decide (c.toNat = q)) = ((l.take k).any fun c => decide (c.toNat = q)) := fun q _ hq => (hany q).trans (by
        have hq2 : decide (c = q) = false := by simp; omega
        rw [hq2, Bool.or_false])
      rw [mkl_set _ (fun q => (l.take (k + 1)).any fun c => decide (c.toNat = q)) c true ((hany c).trans (by simp)) hm2] at hst
      have hB2 := hB.setCell (p := ⟨w1.heap.size, c, none⟩) (Nat.le_refl _) (.bool true)
      have HS := Lib.hid hst
      have HB3 := Lib.hid hB2
      clear hown hst hB hB2 hany hm2
      go_wp2
      go_roundw
      case rel => first | exact ⟨k + 1, hkl, by go_num, HS.out, HB3.out⟩ | ((repeat apply Exists.intro); refine ⟨?r, ?f⟩; (case f => (and_intros <;> rfl)); exact ⟨k + 1, hkl, by go_num, HS.out, HB3.out⟩)
      case measure => simp [intOf]; omega
    · have hkn : k = n := by omega
      subst hkn
      rw [List.take_of_length_le (by rw [Hn.out]; exact Nat.le_refl _)] at hown
      have hBw := HB1.out.trans (hB.mono HB1.out.size)
      have hby := Num.bytes_c a cap l wr (by rw [Hn.out]; omega) Hno.out (HR.out.keep hBw)
      rw [Hn.out] at hby
      have HBY := Lib.hid hby
      have HRd := Lib.hid (Rd.own hown)
      have HBw := Lib.hid hBw
      clear hby hown hB hBw
      go_wp2_with fail
      refine HBY.out.mono ?_
      rintro e w4 ⟨g, rfl, hg, hrg, hb4⟩
      have hrl : Rd w4 (some ⟨g, 0, none⟩) (u8s l) := by
        have := hrg.take l.length
        rwa [u8s_append, List.take_left' (u8s_length l)] at this
      have HRG := Lib.hid hrg
      have HRd4 := Lib.hid (HRd.out.keep hb4)
      have HB4 := Lib.hid (HBw.out.trans (hb4.mono HBw.out.size))
      have HA3 := Lib.hid (A3.out g w4 hrl)
      clear hrg hrl hb4 hg
      go_wp2_with fail
      refine HA3.out.mono ?_
      rintro e w5 ⟨rfl, hb5⟩
      have hZ := heap_alloc_new w5 (.cells #[.int .u64 (s0 : Int), .int .u64 (s1 : Int), .int .u64 (s2 : Int), .int .u64 (s3 : Int)] 54)
      have hb6 := hb5.alloc hb5.size (.cells #[.int .u64 (s0 : Int), .int .u64 (s1 : Int), .int .u64 (s2 : Int), .int .u64 (s3 : Int)] 54)
      obtain ⟨w6, hw6⟩ : ∃ w6, w5.alloc (.cells #[.int .u64 (s0 : Int), .int .u64 (s1 : Int), .int .u64 (s2 : Int), .int .u64 (s3 : Int)] 54) = w6 := ⟨_, rfl⟩
      rw [hw6] at hZ hb6
      have HRG6 := Lib.hid (HRG.out.keep hb6)
      have HRd6 := Lib.hid (HRd4.out.keep hb6)
      have HB6 := Lib.hid (HB4.out.trans (hb6.mono HB4.out.size))
      have HR6 := Lib.hid (HR.out.keep HB6.out)
      have HK := Lib.hid (fun W (hb : Below w6.heap.size w6 W) => Num.kept_c g a cap l W (by rw [Hn.out]; omega) (HRG6.out.keep hb) (HR6.out.keep hb))
      rw [Hn.out] at HK
      have sk : ∀ W, Below w6.heap.size w6 W → (W.cell? ⟨w5.heap.size, 0, none⟩ = some (.int .u64 (s0 : Int)) ∧ W.cell? ⟨w5.heap.size, 1, none⟩ = some (.int .u64 (s1 : Int)) ∧ W.cell? ⟨w5.heap.size, 2, none⟩ = some (.int .u64 (s2 : Int)) ∧ W.cell? ⟨w5.heap.size, 3, none⟩ = some (.int .u64 (s3 : Int))) := by
        intro W hb
        have h1 := (hb.block _ (block_lt hZ)).trans hZ
        exact ⟨cell_block h1 0, cell_block h1 1, cell_block h1 2, cell_block h1 3⟩
      have SK := Lib.hid sk
      have B3r := Lib.hid (fun W (hb : Below w6.heap.size w6 W) => B3.out _ W (HRd6.out.keep hb))
      have z0 : Below w6.heap.size w6 w6.drew := (Below.refl _ _).drew
      have zr : Below w6.heap.size w6 w6 := (Below.refl _ _)
      clear sk hZ hb6 hb5 HRG HRd HRd4 HB4 HA3 hmk
      go_wp2_with fail
      go_region_held3 (fun W => W.cell? ⟨w5.heap.size, 0, none⟩ = some (.int .u64 (s0 : Int)) ∧ W.cell? ⟨w5.heap.size, 1, none⟩ = some (.int .u64 (s1 : Int)) ∧ W.cell? ⟨w5.heap.size, 2, none⟩ = some (.int .u64 (s2 : Int)) ∧ W.cell? ⟨w5.heap.size, 3, none⟩ = some (.int .u64 (s3 : Int)))
        (first | with_reducible exact SK.out _ zr | with_reducible exact SK.out _ z0 | with_reducible exact SK.out _ z1 | with_reducible exact SK.out _ z2 | with_reducible exact SK.out _ z3 | with_reducible exact SK.out _ z4 | with_reducible exact SK.out _ z5 | with_reducible exact SK.out _ z6 | with_reducible exact SK.out _ z7 | with_reducible exact SK.out _ z8)
        (first
          | (go_at_call 33; (with_reducible refine (A1.out _).mono ?_); rintro e w7 ⟨rfl, hb1⟩
             have z1 := z0.trans (hb1.mono z0.size))
          | (go_at_call 35; (with_reducible refine (A2.out _).mono ?_); rintro e w7 ⟨rfl, hb3⟩
             have z3 := z2.trans (hb3.mono z2.size))
          | (go_at_call 36; (with_reducible refine (B3r.out _ z4).mono ?_); rintro e w7 ⟨rfl, hb5⟩
             have z5 := z4.trans (hb5.mono z4.size))
          | (go_at_call 37; (with_reducible refine (HK.out _ z5).mono ?_); rintro e w7 ⟨rfl, hb6⟩
             have z6 := z5.trans (hb6.mono z5.size))
          | (go_at_call 38; (with_reducible refine (A4.out _).mono ?_); rintro e w7 ⟨rfl, hb7⟩
             have z7 := z6.trans (hb7.mono z6.size))
          | (go_at_call 34; (with_reducible refine (B4.out _).mono ?_); rintro e w7 ⟨rfl, hb8⟩
             have z8 := z7.trans (hb8.mono z7.size))
          | (go_at_call 34; (with_reducible refine (B1.out _).mono ?_); rintro e w7 ⟨rfl, hb2⟩
             first | (have z4 := z3.trans (hb2.mono z3.size)) | (have z2 := z1.trans (hb2.mono z1.size)))
          | (go_at_call 34; (with_reducible refine (B2.out _).mono ?_); rintro e w7 ⟨rfl, hb4⟩
             have z4 := z3.trans (hb4.mono z3.size)))
      go_wp2
      go_ret
      exact ⟨by first | rfl | simp, HB6.out.trans (z8.mono HB6.out.size)⟩
set_option maxRecDepth 100000 in
theorem make_c (lo hi : UInt8) (a : Option Addr) (cap n : Nat) (l : List UInt8) (hn : l.length = n) (hm : n ≤ 9223372036854775807) (hno : a = none → cap = 0) (hlc : l.length ≤ cap) (w : World) (hr : Rd w a (u8s l)) (hT : Bt.Tab w) : Calls Tryd.prog 7 #[.int .u8 (lo.toNat : Int), .int .u8 (hi.toNat : Int), .slice a n cap] w fun e w' => e = .returned (.bool true) ∧ Below w.heap.size w w' := by
  by_cases h : n ≤ 1000
  · exact make_small lo.toNat hi.toNat lo.toNat_lt hi.toNat_lt a cap n l hn h (fun e => ⟨hno e, by have := hno e; omega⟩) w hr hT
  · have hd : decide (1000 < (n : Int)) = true := by simp; omega
    have HT := Lib.hid hT
    clear hr hT h
    go_enter Tryd.func7, Tryd.ntmps7
    go_wp2_with fail
    refine (alive_c w HT.out).mono ?_
    rintro e w1 ⟨rfl, hb1⟩
    go_wp2
    go_ret
    exact ⟨rfl, hb1⟩
end St
end Go.Proofs.YtbdpafdpkgeibaaDoor
