/- dofferlaw33.RobinTurns returns true. Condition: the sentinels read as laid. -/
import Derived.Test.YtjohljpcoodijaaDoorRobinMem
namespace Go.Proofs.YtjohljpcoodijaaDoor
open Go Go.RowKit Kt
namespace Rb

/-- l' is l0 behind k turns. -/
def Rot (l0 l' : List (Int × Int)) (k : Nat) : Prop := l'.length = l0.length ∧ (∀ j, j < l0.length → (fsts l')[j]? = (fsts l0)[(k + j) % l0.length]?) ∧ ∀ z ∈ l', 0 ≤ z.2 ∧ z.2 ≤ 7 * k
theorem Rot.start (l : List (Int × Int)) (h : ∀ z ∈ l, z.2 = 0) : Rot l l 0 := ⟨rfl, fun j hj => by rw [Nat.zero_add, Nat.mod_eq_of_lt hj], fun z hz => by rw [h z hz]; omega⟩
theorem Rot.head {l0 r : List (Int × Int)} {m d : Int} {k : Nat} (h : Rot l0 ((m, d) :: r) k) : (fsts l0)[k % l0.length]? = some m := by
  have h0 : 0 < l0.length := by have := h.1; simp at this; omega
  have := h.2.1 0 h0
  rw [Nat.add_zero] at this
  rw [← this]; rfl
theorem Rot.next {l0 r : List (Int × Int)} {m d : Int} {k : Nat} (h : Rot l0 ((m, d) :: r) k) : Rot l0 (r ++ [(m, d + 7)]) (k + 1) := by
  have hl : r.length + 1 = l0.length := h.1
  refine ⟨by simp; omega, fun j hj => ?_, fun z hz => ?_⟩
  · by_cases hjr : j < r.length
    · have := h.2.1 (j + 1) (by omega)
      rw [show k + 1 + j = k + (j + 1) by omega, ← this]
      rw [fsts, List.map_append, List.getElem?_append_left (by simpa using hjr)]
      simp [fsts]
    · have : j = r.length := by omega
      subst this
      rw [show k + 1 + r.length = k + l0.length by omega, Nat.add_mod_right, h.head]
      simp [fsts]
  · rcases List.mem_append.1 hz with h1 | h1
    · have := h.2.2 z (by simp [h1]); omega
    · have := h.2.2 (m, d) (by simp)
      simp at h1; subst h1; simp at this ⊢; omega

set_option maxHeartbeats 4000000 in
set_option maxRecDepth 100000 in
theorem turns_c (A : Nat → Addr) (t0 : Int) (a : Option Addr) (cap n : Nat) (l : List Int) (w : World) (hn : l.length = n) (h63 : n ≤ 9223372036854775807) (hr : Rd w a (i64s l)) (hs : Sent 152 w A Er.egs) :
    Calls Tryd.prog 10 #[.slice a n cap, .int .i64 t0] w fun e w' => e = .returned (.bool true) ∧ Below w.heap.size w w' := by
  by_cases h30 : n ≤ 30
  · have hd : decide (30 < n) = false := by simp; omega
    obtain ⟨T, hT, hT2⟩ : ∃ T : Nat, wrap64 ((IntKind.u64.wrap t0).tmod 100) = (T : Int) ∧ T < 100 := by
      have h0 := wrap_u64_nonneg t0
      generalize IntKind.u64.wrap t0 = u at *
      have e : u.tmod 100 = u % 100 := by rw [Int.tmod_eq_emod_of_nonneg h0]
      rw [e, IntWalk.wrap64_in (u % 100) ⟨by omega, by omega⟩]
      exact ⟨(u % 100).toNat, by omega, by omega⟩
    have HT := Lib.hid hT
    have Hn := Lib.hid hn
    clear hT hn
    go_enter Tryd.func10, Tryd.ntmps10
    go_wp2_with fail
    refine (alive_c w).mono ?_
    rintro e w1 ⟨rfl, hb1⟩
    go_wp2_with fail
    refine (newL 7 w w1 hb1 (by omega) (by omega)).mono ?_
    rintro e w2 ⟨p, rfl, hL, hp, hb2⟩
    have HL := Lib.hid hL
    clear hL hb1 hb2 hp
    go_wp2_with fail
    go_loopw [8, 27] (fun _ i W => ∃ k g us, k ≤ n ∧ i = .int .i64 (k : Nat) ∧ us.length ≤ k ∧ (∀ z ∈ us, z.2 = 0) ∧ Li w W p g 7 us false) (fun _ i _ => n - (intOf i).toNat)
    case atStart => exact ⟨0, [], [], Nat.zero_le _, rfl, by simp, by simp, HL.out⟩
    case round =>
      clear HL
      obtain ⟨k, g, us, hk, rfl, hus, hz, hL⟩ := hrel
      by_cases hlt : k < n
      · obtain ⟨b, off, ha, hc⟩ := (hr.keep hL.B).i64 k (by rw [Hn.out]; exact hlt)
        generalize l[k]'(by rw [Hn.out]; exact hlt) = x at *
        subst ha
        have HZ := Lib.hid hz
        clear hz
        by_cases hf : fd us x < us.length
        · go_wp2_with (go_at_call 23; (with_reducible refine (addN x hL (by omega) hf).mono ?_); rintro e w5 ⟨rfl, hL5, _⟩)
          go_roundw
          case rel => exact ⟨k + 1, g, us, by omega, by go_num, by omega, HZ.out, hL5⟩
          case measure => simp [intOf]; omega
        · go_wp2_with (go_at_call 23; (with_reducible refine (addY x hL (by omega) hf).mono ?_); rintro e w5 ⟨rfl, g5, hL5, _, _⟩)
          go_roundw
          case rel => exact ⟨k + 1, g5, us ++ [(x, 0)], by omega, by go_num, by simp; omega, (by
            intro z hz
            rcases List.mem_append.1 hz with h1 | h1
            · exact HZ.out z h1
            · simp at h1; subst h1; rfl), hL5⟩
          case measure => simp [intOf]; omega
      · obtain ⟨N, hN⟩ : ∃ N, us.length = N := ⟨_, rfl⟩
        have hN30 : N ≤ 30 := by omega
        have HN := Lib.hid hN
        have HZ := Lib.hid hz
        go_wp2_with fail
        refine (memL N hN hL (by omega)).mono ?_
        rintro e w5 ⟨ar, cr, rfl, own, hL5, hb5⟩
        have hsep : ∀ q, ar = some q → q.block ∉ p :: g := by
          intro q hq hm
          subst hq
          have := (own.lt q.block rfl).1
          have := hL.i.lts _ hm
          omega
        have hrow := Rd.own own
        have HS := Lib.hid hsep
        have HR := Lib.hid hrow
        have HL5 := Lib.hid hL5
        have hN0 : (us = []) ∨ 0 < N := by
          rcases Nat.eq_zero_or_pos N with h | h
          · left; exact List.eq_nil_of_length_eq_zero (by omega)
          · exact .inr h
        clear hsep hrow own hL5 hb5 hL hz hN hus hlt hk
        go_wp2_with fail
        rw [HT.out]
        go_loopw [10, 11, 12, 13, 41] (fun _ _ _ _ i W => ∃ k g l', k ≤ T ∧ i = .int .i64 (k : Nat) ∧ Rot us l' k ∧ Li w W p g 7 l' false ∧ Rd W ar (i64s (fsts us)) ∧ (∀ q, ar = some q → q.block ∉ p :: g)) (fun _ _ _ _ i _ => T - (intOf i).toNat)
        case atStart => exact ⟨0, g, us, Nat.zero_le _, rfl, Rot.start us HZ.out, HL5.out, HR.out, HS.out⟩
        case round =>
          clear HL5 HR HS HZ
          obtain ⟨k, g1, l', hk, rfl, hrot, hL, hrow, hsep⟩ := hrel
          have hlN : l'.length = N := by rw [hrot.1, HN.out]
          by_cases hlt : k < T
          · rcases hN0 with h0 | h0
            · subst h0
              have hN0 : N = 0 := by rw [← HN.out]; rfl
              subst hN0
              obtain rfl : l' = [] := List.eq_nil_of_length_eq_zero hlN
              have hsw := hs.keep hL.B
              go_wp2_with fail
              refine (turnN A hL hs).mono ?_
              rintro e w6 ⟨rfl, hL6, hb6⟩
              have HB6 := Lib.hid hL6.B
              have hs6 := hs.keep hL6.B
              clear hL hrot hrow hsep hL6 hb6 hsw
              go_wp2_with (go_at_call 34; (with_reducible refine (Er.num_at A 3 15 14 (by omega) rfl rfl _ hs6).mono ?_); rintro e w7 ⟨rfl, hb7⟩)
              go_ret
              exact ⟨rfl, HB6.out.trans (hb7.mono HB6.out.size)⟩
            · cases l' with
              | nil => simp at hlN; omega
              | cons z r =>
                obtain ⟨m, d⟩ := z
                have hm := hrot.head
                have hz := hrot.2.2 (m, d) (by simp)
                simp only at hz
                obtain ⟨hz0, hz1⟩ := hz
                have hnx := hrot.next
                have hrl : r.length + 1 = N := hlN
                have hN0b : ((N : Int) == 0) = false := by simp; omega
                have h1N : (1 : Int) ≤ N := by omega
                rw [HN.out] at hm
                obtain ⟨ix, hix⟩ : ∃ ix, k % N = ix := ⟨_, rfl⟩
                have hixl : ix < N := by rw [← hix]; exact Nat.mod_lt _ h0
                have hixi : (ix : Int) < N := by omega
                have hixe : (k : Int) % (N : Int) = (ix : Int) := by rw [← hix]; omega
                rw [hix] at hm
                have HM := Lib.hid hm
                have HNx := Lib.hid hnx
                have HS := Lib.hid hsep
                have HRow := Lib.hid hrow
                clear hlN hrot hm hnx hsep hrow hix
                go_wp2_with fail
                refine (turnY m d (d + 7) r rfl hL hz0 (by omega) (by omega) (by omega) (by omega)).mono ?_
                rintro e w6 ⟨rfl, hL6, hM6⟩
                have hrow6 := HRow.out.mod hM6 HS.out
                obtain ⟨b, off, ha, hc⟩ := hrow6 ix (.int .i64 m) (by rw [i64s, List.getElem?_map, HM.out]; rfl)
                have HR6 := Lib.hid hrow6
                have HM6 := Lib.hid hM6
                have HL6 := Lib.hid hL6
                subst ha
                clear hrow6 hM6 hL6 hL
                go_wp2_with fail
                refine (doneY m (d + 7) 0 (d + 7) true r (by omega) HL6.out (by omega) (by omega) (by omega) (by omega)).mono ?_
                rintro e w7 ⟨rfl, g7, hL7, hM7, hF7⟩
                have hr7 := HR6.out.mod hM7 HS.out
                have hs7 : ∀ q, some (⟨b, off, none⟩ : Addr) = some q → q.block ∉ p :: g7 := by
                  intro q hq
                  obtain rfl := Option.some.inj hq
                  exact hF7.notin (HS.out _ rfl) (lt_of_cell (p := ⟨b, off + ix, none⟩) hc)
                have HR7 := Lib.hid hr7
                have HS7 := Lib.hid hs7
                have HL7 := Lib.hid hL7
                clear hr7 hs7 hL7 hM7 hF7 HL6 HM6 HR6
                go_wp2
                go_roundw
                case rel => exact ⟨k + 1, g7, r ++ [(m, d + 7)], by omega, by go_num, HNx.out, HL7.out, HR7.out, HS7.out⟩
                case measure => simp [intOf]; omega
          · have HB := Lib.hid hL.B
            go_wp2_with fail
            refine (len_c _ p g1 7 l' false hL.i).mono ?_
            rintro e w6 ⟨rfl, rfl⟩
            rw [hlN]
            clear hrot hL hrow hsep hlN
            go_wp2
            go_ret
            exact ⟨by simp, HB.out⟩
  · have hd : decide (30 < n) = true := by simp; omega
    go_enter Tryd.func10, Tryd.ntmps10
    go_wp2_with fail
    refine (alive_c w).mono ?_
    rintro e w1 ⟨rfl, hb1⟩
    go_wp2
    go_ret
    exact ⟨rfl, hb1⟩
end Rb
end Go.Proofs.YtjohljpcoodijaaDoor
