/- dofferlaw33.RobinFair returns true. -/
import Derived.Test.YtjohljpcoodijaaDoorRobinMem
import Derived.Test.YtjohljpcoodijaaDoorMapI
namespace Go.Proofs.YtjohljpcoodijaaDoor
open Go Go.RowKit Kt
namespace Rb

/-- Behind k turns of three members: what each has spent and has left over. -/
structure Fv (Q M : Int) (k : Nat) (d f : Int → Int) : Prop where
  ex : ∃ base : Int, 0 ≤ base ∧ base ≤ 256 * k ∧ ∀ x : Int, 0 ≤ x → x < 3 → 0 ≤ d x ∧ d x < M ∧ f x + d x = base + if x < ((k % 3 : Nat) : Int) then Q else 0
theorem Fv.start (Q M : Int) (hM : 1 ≤ M) : Fv Q M 0 (fun _ => 0) (fun _ => 0) := ⟨0, by omega, by omega, fun x h0 h3 => ⟨by omega, by omega, by simp; omega⟩⟩
theorem Fv.bd {Q M : Int} {k : Nat} {d f : Int → Int} (h : Fv Q M k d f) (hQ : 1 ≤ Q) (hQ2 : Q ≤ 256) (hM2 : M ≤ 48) (x : Int) (h0 : 0 ≤ x) (h3 : x < 3) : -48 ≤ f x ∧ f x ≤ 256 * k + 256 ∧ 0 ≤ d x ∧ d x < M := by
  obtain ⟨base, b0, b1, hx⟩ := h.ex
  obtain ⟨h1, h2, h4⟩ := hx x h0 h3
  split at h4 <;> exact ⟨by omega, by omega, h1, h2⟩
theorem Fv.fair {Q M : Int} {k : Nat} {d f : Int → Int} (h : Fv Q M k d f) (hQ : 1 ≤ Q) (hM : 1 ≤ M) (x y : Int) (h0 : 0 ≤ x) (h3 : x < 3) (k0 : 0 ≤ y) (k3 : y < 3) : f x - f y ≤ Q + 2 * M := by
  obtain ⟨base, b0, b1, hx⟩ := h.ex
  obtain ⟨h1, h2, h4⟩ := hx x h0 h3
  obtain ⟨g1, g2, g4⟩ := hx y k0 k3
  split at h4 <;> split at g4 <;> omega
theorem Fv.next {Q M : Int} {k : Nat} {d f : Int → Int} (h : Fv Q M k d f) (hQ : 1 ≤ Q) (hQ2 : Q ≤ 256) (u : Int) (hu : u ≤ d ((k % 3 : Nat) : Int) + Q) (hu2 : d ((k % 3 : Nat) : Int) + Q < u + M) :
    Fv Q M (k + 1) (fun y => if y = ((k % 3 : Nat) : Int) then d ((k % 3 : Nat) : Int) + Q - u else d y) (fun y => if y = ((k % 3 : Nat) : Int) then f ((k % 3 : Nat) : Int) + u else f y) := by
  obtain ⟨base, b0, b1, hx⟩ := h.ex
  have hk : k % 3 < 3 := Nat.mod_lt _ (by omega)
  obtain ⟨r, hr⟩ : ∃ r, k % 3 = r := ⟨_, rfl⟩
  rw [hr] at hu hu2 hx hk ⊢
  have hn : (k + 1) % 3 = if r = 2 then 0 else r + 1 := by split <;> omega
  by_cases h2 : r = 2
  · rw [if_pos h2] at hn
    subst h2
    refine ⟨base + Q, by omega, by omega, fun x h0 h3 => ?_⟩
    rw [hn]
    obtain ⟨h1, h2, h4⟩ := hx x h0 h3
    by_cases hxr : x = ((2 : Nat) : Int)
    · subst hxr
      rw [if_neg (Int.lt_irrefl _)] at h4
      simp only [if_true]
      exact ⟨by omega, by omega, by rw [if_neg (by omega)]; omega⟩
    · simp only [hxr, if_false]
      rw [if_pos (by omega)] at h4
      exact ⟨h1, h2, by rw [if_neg (by omega)]; omega⟩
  · rw [if_neg h2] at hn
    refine ⟨base, b0, by omega, fun x h0 h3 => ?_⟩
    rw [hn]
    obtain ⟨h1, h2, h4⟩ := hx x h0 h3
    by_cases hxr : x = (r : Int)
    · subst hxr
      rw [if_neg (Int.lt_irrefl _)] at h4
      simp only [if_true]
      exact ⟨by omega, by omega, by rw [if_pos (by omega)]; omega⟩
    · simp only [hxr, if_false]
      refine ⟨h1, h2, ?_⟩
      rw [h4]
      congr 1
      by_cases hlt : x < (r : Int)
      · rw [if_pos hlt, if_pos (by omega)]
      · rw [if_neg hlt, if_neg (by omega)]

def adds : Nat → List (Int × Int)
  | 0 => []
  | 1 => [(0, 0)]
  | 2 => [(0, 0), (1, 0)]
  | _ => [(0, 0), (1, 0), (2, 0)]
/-- The row behind k turns. -/
def trio (k : Nat) (d : Int → Int) : List (Int × Int) := [(((k % 3 : Nat) : Int), d ((k % 3 : Nat) : Int)), ((((k + 1) % 3 : Nat) : Int), d (((k + 1) % 3 : Nat) : Int)), ((((k + 2) % 3 : Nat) : Int), d (((k + 2) % 3 : Nat) : Int))]
theorem trio_next (k : Nat) (d : Int → Int) (v : Int) :
    [((((k + 1) % 3 : Nat) : Int), d (((k + 1) % 3 : Nat) : Int)), ((((k + 2) % 3 : Nat) : Int), d (((k + 2) % 3 : Nat) : Int)), (((k % 3 : Nat) : Int), v)] = trio (k + 1) (fun y => if y = ((k % 3 : Nat) : Int) then v else d y) := by
  have e1 : (k + 1 + 1) % 3 = (k + 2) % 3 := rfl
  have e2 : (k + 1 + 2) % 3 = k % 3 := by omega
  have n1 : ¬ (((k + 1) % 3 : Nat) : Int) = ((k % 3 : Nat) : Int) := by omega
  have n2 : ¬ (((k + 2) % 3 : Nat) : Int) = ((k % 3 : Nat) : Int) := by omega
  unfold trio
  simp only [e1, e2, n1, n2, if_false, if_true]
theorem zeroInt (w : World) : (zeroValue 3).run Tryd.prog w = .ok (.int .i64 0) w := by kernel_rfl

set_option maxHeartbeats 4000000 in
set_option maxRecDepth 100000 in
theorem fair_c (q0 m0 : Int) (a : Option Addr) (cap n : Nat) (l : List Int) (w : World) (hn : l.length = n) (h63 : n ≤ 9223372036854775807) (hr : Rd w a (i64s l)) :
    Calls Tryd.prog 4 #[.int .i64 q0, .int .i64 m0, .slice a n cap] w fun e w' => e = .returned (.bool true) ∧ Below w.heap.size w w' := by
  by_cases h300 : n ≤ 300
  · have hd : decide (300 < n) = false := by simp; omega
    obtain ⟨Q, hQ, hQ1, hQ2⟩ : ∃ Q : Nat, wrap64 (1 + wrap64 ((IntKind.u64.wrap q0).tmod 256)) = (Q : Int) ∧ 1 ≤ Q ∧ Q ≤ 256 := by
      have h0 := wrap_u64_nonneg q0
      generalize IntKind.u64.wrap q0 = u at *
      have e : u.tmod 256 = u % 256 := by rw [Int.tmod_eq_emod_of_nonneg h0]
      rw [e, IntWalk.wrap64_in (u % 256) ⟨by omega, by omega⟩, IntWalk.wrap64_in _ ⟨by omega, by omega⟩]
      exact ⟨(1 + u % 256).toNat, by omega, by omega, by omega⟩
    obtain ⟨M, hM, hM1, hM2⟩ : ∃ M : Nat, wrap64 (1 + wrap64 ((IntKind.u64.wrap m0).tmod 48)) = (M : Int) ∧ 1 ≤ M ∧ M ≤ 48 := by
      have h0 := wrap_u64_nonneg m0
      generalize IntKind.u64.wrap m0 = u at *
      have e : u.tmod 48 = u % 48 := by rw [Int.tmod_eq_emod_of_nonneg h0]
      rw [e, IntWalk.wrap64_in (u % 48) ⟨by omega, by omega⟩, IntWalk.wrap64_in _ ⟨by omega, by omega⟩]
      exact ⟨(1 + u % 48).toNat, by omega, by omega, by omega⟩
    have HQ := Lib.hid hQ
    have HM := Lib.hid hM
    have Hn := Lib.hid hn
    clear hQ hM hn
    have hmm := @run_makeMap Tryd.prog
    go_enter Tryd.func4, Tryd.ntmps4
    go_wp2_with fail
    refine (alive_c w).mono ?_
    rintro e w1 ⟨rfl, hb1⟩
    go_wp2_with fail
    rw [HQ.out, HM.out]
    refine (newL Q w w1 hb1 (by omega) (by omega)).mono ?_
    rintro e w2 ⟨p, rfl, hL, hp, hb2⟩
    have HL := Lib.hid hL
    clear hL hb1 hb2 hp
    go_wp2_with fail
    go_loopw [9, 41] (fun _ i W => ∃ k g, k ≤ 3 ∧ i = .int .i64 (k : Nat) ∧ Li w W p g Q (adds k) false) (fun _ i _ => 3 - (intOf i).toNat)
    case atStart => exact ⟨0, [], by omega, rfl, HL.out⟩
    case round =>
      clear HL
      obtain ⟨k, g, hk, rfl, hL⟩ := hrel
      by_cases hlt : k < 3
      · have hA : adds k ++ [((k : Int), 0)] = adds (k + 1) ∧ ¬ fd (adds k) k < (adds k).length ∧ (adds k).length ≤ 3 := by
          have : k = 0 ∨ k = 1 ∨ k = 2 := by omega
          rcases this with rfl | rfl | rfl <;> exact ⟨rfl, by decide, by decide⟩
        obtain ⟨hA1, hA2, hA3⟩ := hA
        have HA := Lib.hid hA1
        clear hA1
        go_wp2_with (go_at_call 23; (with_reducible refine (addY k hL (by omega) hA2).mono ?_); rintro e w5 ⟨rfl, g5, hL5, _, _⟩)
        go_roundw
        case rel => exact ⟨k + 1, g5, by omega, by go_num, by rw [← HA.out]; exact hL5⟩
        case measure => simp [intOf]; omega
      · have : k = 3 := by omega
        subst this
        have hL0 := hL.below ((Below.refl wr.heap.size wr).alloc (Nat.le_refl _) (.map #[] 0))
        have hM0 := MapI.made wr Tryd.prog 3 3
        have hsep : wr.heap.size ∉ p :: g := fun hm => Nat.lt_irrefl _ (hL.i.lts _ hm)
        have hws : w.heap.size ≤ wr.heap.size := hL.B.size
        obtain ⟨z, hz⟩ : ∃ z, wr.heap.size = z := ⟨_, rfl⟩
        rw [hz] at hM0 hsep hws
        have HL0 := Lib.hid hL0
        have HM0 := Lib.hid hM0
        have HS0 := Lib.hid hsep
        clear hL hL0 hM0 hsep
        go_wp2_with fail
        go_loopw [6, 11, 12, 13, 14, 15, 16, 17, 18, 49] (fun _ at' _ _ _ _ _ _ _ i W => ∃ k an g d f cnt, k ≤ 40 ∧ i = .int .i64 (k : Nat) ∧ at' = .int .i64 (an : Nat) ∧ an ≤ 400 * k ∧ Li w W p g Q (trio k d) false ∧ MapI Tryd.prog 3 3 W z cnt f ∧ cnt ≤ k ∧ Fv Q M k d f ∧ z ∉ p :: g) (fun _ _ _ _ _ _ _ _ _ i _ => 40 - (intOf i).toNat)
        case atStart => exact ⟨0, 0, g, fun _ => 0, fun _ => 0, 0, by omega, rfl, rfl, by omega, HL0.out, HM0.out, by omega, Fv.start Q M (by omega), HS0.out⟩
        case round =>
          clear HL0 HM0 HS0 hz
          obtain ⟨wo, rfl⟩ : ∃ wo : World, wo = wr := ⟨_, rfl⟩
          obtain ⟨k, an, g, d, f, cnt, hk, rfl, rfl, han, hL, hMp, hcnt, hF, hsep⟩ := hrel
          by_cases hlt : k < 40
          · obtain ⟨r, hr⟩ : ∃ r, k % 3 = r := ⟨_, rfl⟩
            have hr3 : r < 3 := by omega
            obtain ⟨rest, hrest⟩ : ∃ rest, [((((k + 1) % 3 : Nat) : Int), d (((k + 1) % 3 : Nat) : Int)), ((((k + 2) % 3 : Nat) : Int), d (((k + 2) % 3 : Nat) : Int))] = rest := ⟨_, rfl⟩
            obtain ⟨dr, hdr⟩ : ∃ dr, d (r : Int) = dr := ⟨_, rfl⟩
            have hbd := hF.bd (by omega) (by omega) (by omega) (r : Int) (by omega) (by omega)
            have hL' : Li w wo p g Q (((r : Int), dr) :: rest) false := by
              have := hL
              unfold trio at this
              rw [hrest, hr, hdr] at this
              exact this
            have hrl : rest.length = 2 := by rw [← hrest]; rfl
            have hnx : ∀ v, rest ++ [((r : Int), v)] = trio (k + 1) (fun y => if y = (r : Int) then v else d y) := by
              intro v
              have := trio_next k d v
              rw [hr] at this
              rw [← this, ← hrest]; rfl
            rw [hdr] at hbd
            have hd0 : 0 ≤ dr := hbd.2.2.1
            have hd1 : dr ≤ 1000000000 := by omega
            obtain ⟨H, hH⟩ : ∃ H : Nat, dr + Q = (H : Int) := ⟨(dr + Q).toNat, by omega⟩
            have hH2 : H < 304 := by omega
            have Hr := Lib.hid hr
            have Hdr := Lib.hid hdr
            have HNx := Lib.hid hnx
            have HF := Lib.hid hF
            have HS := Lib.hid hsep
            have HMp := Lib.hid hMp
            have HL := Lib.hid hL'
            have HH := Lib.hid hH
            have HRl := Lib.hid hrl
            have HRest := Lib.hid hrest
            clear hr hdr hnx hF hsep hMp hL hL' hbd hH hrl hrest
            go_wp2_with fail
            refine (turnY (r : Int) dr H rest HH.out HL.out hd0 hd1 (by omega) (by omega) (by rw [HRl.out]; omega)).mono ?_
            rintro e w6 ⟨rfl, hL6, hM6⟩
            have hMp6 := HMp.out.mod hM6 HS.out
            have HL6 := Lib.hid hL6
            have HMp6 := Lib.hid hMp6
            have HB6 := Lib.hid hL6.B
            clear hL6 hM6 hMp6 HL HMp
            go_wp2_with fail
            go_loop [11, 15, 16] (fun at' u _ => ∃ an un : Nat, at' = .int .i64 an ∧ u = .int .i64 un ∧ an ≤ 400 * k + un ∧ un ≤ H) (fun _ u _ => H - (intOf u).toNat)
            case atStart => exact ⟨an, 0, rfl, rfl, by omega, by omega⟩
            case round =>
              obtain ⟨an, un, rfl, rfl, han2, hun⟩ := hrel
              go_upto_if 63 with (fail)
              go_cut [16] (fun v W => ∃ pn : Nat, v = .int .i64 pn ∧ 1 ≤ pn ∧ pn ≤ M ∧ w6 = W)
              case first =>
                by_cases hin : an < n
                · obtain ⟨b, off, ha, hc⟩ := (hr.keep HB6.out).i64 an (by rw [Hn.out]; exact hin)
                  generalize l[an]'(by rw [Hn.out]; exact hin) = x at *
                  subst ha
                  have hpx : ∃ pn : Nat, wrap64 (1 + wrap64 ((IntKind.u64.wrap x).tmod M)) = (pn : Int) ∧ 1 ≤ pn ∧ pn ≤ M := by
                    have h0 := wrap_u64_nonneg x
                    generalize IntKind.u64.wrap x = u at *
                    have e : u.tmod M = u % M := by rw [Int.tmod_eq_emod_of_nonneg h0]
                    have e1 := Int.emod_nonneg u (show (M : Int) ≠ 0 by omega)
                    have e2 := Int.emod_lt_of_pos u (show (0 : Int) < M by omega)
                    rw [e, IntWalk.wrap64_in (u % M) ⟨by omega, by omega⟩, IntWalk.wrap64_in _ ⟨by omega, by omega⟩]
                    exact ⟨(1 + u % M).toNat, by omega, by omega, by omega⟩
                  obtain ⟨pn, hp, hp1, hp2⟩ := hpx
                  have HP := Lib.hid hp
                  clear hp
                  go_wp2
                  go_meet
                  case rel => exact ⟨pn, by rw [HP.out], hp1, hp2, rfl⟩
                · go_wp2
                  go_meet
                  case rel => exact ⟨M, rfl, by omega, by omega, rfl⟩
              case rest =>
                obtain ⟨pn, rfl, hp1, hp2, rfl⟩ := hcut
                by_cases hbr : H < un + pn
                · have hbd := HF.out.bd (by omega) (by omega) (by omega) (r : Int) (by omega) (by omega)
                  have hnext := HF.out.next (by omega) (by omega) (un : Int) (by rw [Hr.out, Hdr.out, HH.out]; omega) (by rw [Hr.out, Hdr.out, HH.out]; omega)
                  rw [Hr.out, Hdr.out, HH.out] at hnext
                  obtain ⟨fr, hfr⟩ : ∃ fr, f (r : Int) = fr := ⟨_, rfl⟩
                  rw [hfr] at hbd hnext
                  obtain ⟨hf1, hf2, _, _⟩ := hbd
                  have HNext := Lib.hid hnext
                  have HFr := Lib.hid hfr
                  clear hnext hfr
                  go_wp2_with fail
                  refine (doneY (r : Int) H un (H - un : Int) true rest rfl HL6.out (by omega) (by omega) (by omega) (by rw [HRl.out]; omega)).mono ?_
                  rintro e w8 ⟨rfl, g8, hL8, hM8, hF8⟩
                  have hMp8 := HMp6.out.mod hM8 HS.out
                  have hs8 := hF8.notin HS.out HMp6.out.lt
                  have hget := hMp8.get Tryd.underlying40 Tryd.underlying3 Tryd.underlying3 (zeroInt w8) (r : Int) (WalkArith.wf_i64 (by omega))
                  obtain ⟨w9, hset, hMp9, hG9⟩ := hMp8.set Tryd.underlying40 Tryd.underlying3 Tryd.underlying3 (by unfold maxLen; omega) (r : Int) (fr + un) (WalkArith.wf_i64 (by omega)) (WalkArith.wf_i64 (by omega))
                  rw [HFr.out] at hget
                  have hM9 := Mod.of_grown hG9
                  have hL9 := hL8.mod hM9 (by
                    intro q hq hm
                    have : q = z := by simpa using hm
                    subst this
                    exact hs8 hq) (by
                    intro q hq
                    have : q = z := by simpa using hq
                    omega)
                  have hfair : ∀ x y : Int, 0 ≤ x → x < 3 → 0 ≤ y → y < 3 → (if x = (r : Int) then fr + un else f x) - (if y = (r : Int) then fr + un else f y) ≤ Q + 2 * M := fun x y h0 h3 k0 k3 => HNext.out.fair (by omega) (by omega) x y h0 h3 k0 k3
                  have hfb := fun (x : Int) h0 h3 => HNext.out.bd (by omega) (by omega) (by omega) x h0 h3
                  have HL9 := Lib.hid hL9
                  have HMp9 := Lib.hid hMp9
                  have HS8 := Lib.hid hs8
                  have HFair := Lib.hid hfair
                  have HFb := Lib.hid hfb
                  clear hL8 hM8 hF8 hMp8 hs8 hMp9 hG9 hM9 hL9 hfair hfb HL6 HMp6 HS
                  go_wp2
                  go_loop [17, 18, 93, 96] (fun _ _ i _ => ∃ ka : Nat, ka ≤ 3 ∧ i = .int .i64 ka) (fun _ _ i _ => 3 - (intOf i).toNat)
                  case atStart => exact ⟨0, by omega, rfl⟩
                  case round =>
                    obtain ⟨ka, hka, rfl⟩ := hrel
                    by_cases hka3 : ka < 3
                    · go_wp2
                      go_loop [18, 96] (fun _ i => ∃ kb : Nat, kb ≤ 3 ∧ i = .int .i64 kb) (fun _ i => 3 - (intOf i).toNat)
                      case atStart => exact ⟨0, by omega, rfl⟩
                      case round =>
                        obtain ⟨kb, hkb, rfl⟩ := hrel
                        by_cases hkb3 : kb < 3
                        · have ga := HMp9.out.get Tryd.underlying40 Tryd.underlying3 Tryd.underlying3 (zeroInt w9) (ka : Int) (WalkArith.wf_i64 (by omega))
                          have gb := HMp9.out.get Tryd.underlying40 Tryd.underlying3 Tryd.underlying3 (zeroInt w9) (kb : Int) (WalkArith.wf_i64 (by omega))
                          have hle := HFair.out ka kb (by omega) (by omega) (by omega) (by omega)
                          obtain ⟨a1, a2, _⟩ := HFb.out ka (by omega) (by omega)
                          obtain ⟨b1, b2, _⟩ := HFb.out kb (by omega) (by omega)
                          generalize (if (ka : Int) = (r : Int) then fr + un else f ka) = va at *
                          generalize (if (kb : Int) = (r : Int) then fr + un else f kb) = vb at *
                          go_wp2
                          go_round
                          case rel => exact ⟨kb + 1, by omega, by go_num⟩
                          case measure => simp [intOf]; omega
                        · go_wp2
                          go_round
                          case rel => exact ⟨ka + 1, by omega, by go_num⟩
                          case measure => simp [intOf]; omega
                    · go_wp2
                      go_roundw
                      case rel =>
                        (repeat apply Exists.intro)
                        refine ⟨?r, rfl, rfl, rfl, rfl, rfl, rfl, rfl, rfl, rfl, rfl⟩
                        refine ⟨k + 1, by omega, by go_num, an, rfl, by omega, g8, _, (by have := HL9.out; unfold nxt at this; rw [if_pos rfl, HNx.out] at this; exact this), _, cnt + 1, HMp9.out, by omega, HNext.out, ?_⟩
                        simpa using HS8.out
                      case measure => simp [intOf]; omega
                · go_wp2
                  go_round
                  case rel => exact ⟨an + 1, un + pn, by go_num, by go_num, by omega, by omega⟩
                  case measure => simp [intOf]; omega
          · go_wp2
            go_ret
            exact ⟨rfl, hL.B⟩
  · have hd : decide (300 < n) = true := by simp; omega
    go_enter Tryd.func4, Tryd.ntmps4
    go_wp2_with fail
    refine (alive_c w).mono ?_
    rintro e w1 ⟨rfl, hb1⟩
    go_wp2
    go_ret
    exact ⟨rfl, hb1⟩
end Rb
end Go.Proofs.YtjohljpcoodijaaDoor
