/- Package comb: Own (how many own places rows have). -/
import Derived.Test.YteekonojmpihlaaDoorQCbLayable
namespace Go.Proofs.YteekonojmpihlaaDoor
namespace Kt
end Kt
open Go Go.RowKit Kt
namespace Cb
def ownSum (rows : List (List Int)) (k : Nat) : Nat := ((rows.take k).map ownN).sum
def ownAll (rows : List (List Int)) : Nat := (rows.map ownN).sum
theorem ownSum_succ {rows : List (List Int)} {k : Nat} {r : List Int} (h : rows[k]? = some r) : ownSum rows (k + 1) = ownSum rows k + ownN r := by
  unfold ownSum
  rw [List.take_add_one, h, List.map_append, List.sum_append]
  simp
theorem ownSum_all {rows : List (List Int)} {k : Nat} (h : rows.length ≤ k) : ownSum rows k = ownAll rows := by
  unfold ownSum ownAll
  rw [List.take_of_length_le h]
theorem ownN_le (r : List Int) : ownN r ≤ r.length := by
  unfold ownN ownL
  exact Nat.le_trans (List.length_filter_le _ _) (by rw [List.length_range]; exact Nat.le_refl _)
theorem ownSum_le {rows : List (List Int)} {f : Nat} (h : ∀ r ∈ rows, r.length ≤ f) : ∀ k, ownSum rows k ≤ k * f
  | 0 => by simp [ownSum]
  | k + 1 => by
    have ih := ownSum_le h k
    cases hk : rows[k]? with
    | none =>
      have hl : rows.length ≤ k := by rw [List.getElem?_eq_none_iff] at hk; exact hk
      rw [ownSum_all (by omega), ← ownSum_all hl]
      exact Nat.le_trans ih (Nat.mul_le_mul_right f (by omega))
    | some r =>
      rw [ownSum_succ hk, Nat.add_mul]
      have := ownN_le r
      have := h r (List.mem_of_getElem? hk)
      omega
set_option maxRecDepth 100000 in
set_option maxHeartbeats 2000000 in
theorem Own_no (ra : Option Addr) (n rc : Nat) (L : List IRow) (rows : List (List Int)) (hL : L.map (·.l) = rows) (hn : L.length = n) (hN : n ≤ 1000) (hy : layable rows = false) (w : World) (hr : Rd w ra (L.map IRow.v)) (hok : ∀ r ∈ L, r.ok w) :
    Calls Tryd.prog 37 #[.slice ra n rc] w fun e w' => e = .returned (.int .i64 0) ∧ Below w.heap.size w w' := by
  have hlay := layable_c ra n rc L rows hL hn (by omega) w hr hok
  rw [hy] at hlay
  have HLay := Lib.hid hlay
  clear hlay hr hok hL
  go_enter Tryd.func37, Tryd.ntmps37
  go_wp2_with fail
  refine HLay.out.mono ?_
  rintro _ w2 ⟨rfl, hb2⟩
  go_wp2
  go_ret
  exact ⟨rfl, hb2⟩
set_option maxRecDepth 100000 in
set_option maxHeartbeats 4000000 in
theorem Own_c (ra : Option Addr) (n rc : Nat) (L : List IRow) (rows : List (List Int)) (hL : L.map (·.l) = rows) (hn : L.length = n) (hN : n ≤ 200) (hy : layable rows = true) (w : World) (hr : Rd w ra (L.map IRow.v)) (hok : ∀ r ∈ L, r.ok w) :
    Calls Tryd.prog 37 #[.slice ra n rc] w fun e w' => e = .returned (.int .i64 (ownAll rows : Nat)) ∧ Below w.heap.size w w' := by
  have hlay := layable_c ra n rc L rows hL hn (by omega) w hr hok
  rw [hy] at hlay
  have hrn : rows.length = n := by rw [← hL, List.length_map]; exact hn
  have hfacts : ∀ r ∈ L, 0 < r.l.length ∧ r.l.length ≤ 256 ∧ ∀ x ∈ r.l, (Lit.int .i64 x).wf = true := by
    intro r hrm
    have h := hy
    unfold layable at h
    simp only [Bool.and_eq_true, decide_eq_true_eq, List.all_eq_true] at h
    obtain ⟨h1, h2, h3, h4, h5⟩ := h
    have h6 := h5 r.l (by rw [← hL]; exact List.mem_map_of_mem hrm)
    refine ⟨by omega, by omega, fun x hx => ?_⟩
    have := h6.2 x hx
    simp only [outb, Bool.not_eq_true', Bool.or_eq_false_iff, decide_eq_false_iff_not] at this
    exact WalkArith.wf_i64 (by omega)
  have hsl : ∀ k, ownSum rows k ≤ k * 256 := ownSum_le (fun r hrm => by
    rw [← hL] at hrm
    obtain ⟨x, hx, rfl⟩ := List.mem_map.1 hrm
    exact (hfacts x hx).2.1)
  have hrow : ∀ k, k < n → ∀ V, Below w.heap.size w V → ∃ (b o : Nat) (rk : IRow), ra = some ⟨b, o, none⟩ ∧ V.cell? ⟨b, o + k, none⟩ = some (.slice rk.a rk.l.length rk.cap) ∧ rows[k]? = some rk.l ∧
      ∀ V', Below w.heap.size w V' → Calls Tryd.prog 74 #[.slice rk.a rk.l.length rk.cap] V' fun e w' => ∃ r : IRow, e = .returned r.v ∧ r.l.length = ownN rk.l ∧ Below V'.heap.size V' w' := fun k hk V hV => by
    have hkL : k < L.length := by omega
    obtain ⟨b, o, ha, hc⟩ := (hr.keep hV).map_at k hkL
    refine ⟨b, o, L[k], ha, hc, by rw [← hL, List.getElem?_map, List.getElem?_eq_getElem hkL]; rfl, fun V' hV' => ?_⟩
    have hm := List.getElem_mem hkL
    obtain ⟨f1, f2, f3⟩ := hfacts _ hm
    refine (own_c L[k].l L[k].a L[k].l.length L[k].cap rfl f1 (by omega) f3 V' ((hok _ hm).keep hV').rd).mono ?_
    rintro e w' ⟨r, h1, _, h3, _, h5⟩
    exact ⟨r, h1, by rw [h3, ints_len]; rfl, h5⟩
  have HLay := Lib.hid hlay
  have HRow := Lib.hid hrow
  have HRn := Lib.hid hrn
  have HSl := Lib.hid hsl
  clear hlay hr hok hL hn hrow hrn hsl hfacts hy
  go_enter Tryd.func37, Tryd.ntmps37
  go_wp2_with fail
  refine HLay.out.mono ?_
  rintro _ w2 ⟨rfl, hb2⟩
  have HB2 := Lib.hid hb2
  clear hb2 HLay
  go_wp2
  go_loopw [3, 5, 11] (fun s _ i W => ∃ k : Nat, k ≤ n ∧ i = .int .i64 (k : Int) ∧ s = .int .i64 (ownSum rows k : Nat) ∧ Below w.heap.size w W) (fun _ _ i _ => n - (intOf i).toNat)
  case atStart => exact ⟨0, Nat.zero_le _, rfl, rfl, HB2.out⟩
  case round =>
    obtain ⟨k, hk, rfl, rfl, hB⟩ := hrel
    by_cases hlt : k < n
    · obtain ⟨b, o, rk, rfl, hc, hg, hcall⟩ := HRow.out k hlt wr hB
      have hki : (k : Int) < (n : Int) := by omega
      have hs := ownSum_succ hg
      have hs2 := HSl.out (k + 1)
      have hs1 := HSl.out k
      obtain ⟨S, hS⟩ : ∃ S, ownSum rows k = S := ⟨_, rfl⟩
      obtain ⟨T, hT⟩ : ∃ T, ownN rk.l = T := ⟨_, rfl⟩
      rw [hS, hT] at hs
      rw [hS] at hs1
      rw [hs] at hs2
      rw [hS]
      have HC := Lib.hid (hcall wr hB)
      rw [hT] at HC
      have HS := Lib.hid hs
      have HB := Lib.hid hB
      generalize rk.l.length = fl at *
      clear hcall hg hs hB hS hT
      go_wp2_with fail
      refine HC.out.mono ?_
      rintro _ w5 ⟨r, rfl, hrl, hb5⟩
      have hrv : r.v = .slice r.a T r.cap := by unfold IRow.v; rw [hrl]
      rw [hrv]
      have HB5 := Lib.hid (HB.out.trans (hb5.mono HB.out.size))
      clear hb5 hrv hrl
      go_wp2
      go_roundw
      case rel => exact ⟨k + 1, hlt, by go_num, by rw [HS.out]; go_num, HB5.out⟩
      case measure => simp [intOf]; omega
    · obtain rfl : k = n := by omega
      have e := ownSum_all (rows := rows) (k := k) (by rw [HRn.out]; exact Nat.le_refl _)
      have hlt' : ¬ ((k : Int) < (k : Int)) := by omega
      rw [e]
      go_wp2
      go_ret
      exact ⟨rfl, hB⟩
end Cb
end Go.Proofs.YteekonojmpihlaaDoor
