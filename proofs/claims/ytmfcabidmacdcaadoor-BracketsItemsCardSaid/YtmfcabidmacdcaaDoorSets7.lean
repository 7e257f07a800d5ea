/- The walks of package sets: below, Span, Empty, Minus, Of. -/
import Derived.Test.YtmfcabidmacdcaaDoorSets6
import Derived.Laws.BitsAllLaws
namespace Go.Proofs.YtmfcabidmacdcaaDoor
open Go Go.RowKit Kt
namespace St
open Mk
set_option maxRecDepth 100000 in
theorem below_c (m : Int) (h1 : -1000 ≤ m) (h2 : m ≤ 1000) (w : World) : Calls Tryd.prog 170 #[.int .i64 m] w fun e w' => e = .returned (.int .u64 (bl m : Nat)) ∧ w = w' := by
  by_cases h : 64 ≤ m
  · have hb : bl m = 18446744073709551615 := by unfold bl; rw [if_pos h]
    rw [hb]
    go_enter Tryd.func170, Tryd.ntmps170
    go_wp2
    go_ret
    exact ⟨rfl, rfl⟩
  · have hb : bl m = 2 ^ m.toNat - 1 := by unfold bl; rw [if_neg h]
    have hw := Mk.wrap_pow (t := m.toNat) (m := 2 ^ m.toNat) (by omega) rfl
    have hp : 2 ^ m.toNat < 18446744073709551616 := Nat.pow_lt_pow_right (m := m.toNat) (n := 64) (by decide) (by omega)
    have hp0 : 0 < 2 ^ m.toNat := Nat.pow_pos (by decide)
    rw [hb]
    obtain ⟨q, hq⟩ : ∃ q, 2 ^ m.toNat = q := ⟨_, rfl⟩
    rw [hq] at hw hp hp0 ⊢
    have hsub : ((q - 1 : Nat) : Int) = (q : Int) - 1 := by omega
    rw [hsub]
    have hd : decide (64 ≤ m) = false := by simpa using h
    by_cases h0 : 0 ≤ m
    · obtain ⟨k, rfl⟩ : ∃ k : Nat, m = (k : Int) := ⟨m.toNat, by omega⟩
      have hk : ((k : Nat) : Int).toNat = k := by omega
      rw [hk] at hw
      have hmx : max (k : Int) 0 = (k : Int) := by omega
      have hmn : min k 64 = k := by omega
      clear hb h hq
      go_enter Tryd.func170, Tryd.ntmps170
      go_wp2
      go_ret
      exact ⟨rfl, rfl⟩
    · have hmx : max m 0 = 0 := by omega
      have hm0 : m.toNat = 0 := by omega
      rw [hm0] at hq
      have hq1 : q = 1 := by rw [← hq]
      subst hq1
      clear hb h hq hw
      go_enter Tryd.func170, Tryd.ntmps170
      go_wp2
      go_ret
      exact ⟨rfl, rfl⟩
/-- A word of a span. -/
def sw (lo hi : Nat) (i : Nat) : Nat := bl ((hi : Int) + 1 - 64 * (i : Int)) &&& (18446744073709551615 - bl ((lo : Int) - 64 * (i : Int)))
theorem sw_bit (lo hi i t : Nat) (ht : t < 64) : (sw lo hi i).testBit t = (decide (lo ≤ 64 * i + t) && decide (64 * i + t ≤ hi)) := by
  unfold sw
  have hb := bl_lt ((lo : Int) - 64 * (i : Int))
  rw [Nat.testBit_and, bl_bit _ _ ht, show 18446744073709551615 - bl ((lo : Int) - 64 * (i : Int)) = 2 ^ 64 - (bl ((lo : Int) - 64 * (i : Int)) + 1) by omega, Nat.testBit_two_pow_sub_succ hb, bl_bit _ _ ht]
  have h1 : decide (t < 64) = true := by simpa using ht
  rw [h1, Bool.true_and, Bool.and_comm]
  congr 1
  · rw [← decide_not]
    apply decide_eq_decide.2
    omega
  · apply decide_eq_decide.2
    omega
theorem sw_lt (lo hi i : Nat) : sw lo hi i < 18446744073709551616 := Nat.lt_of_le_of_lt Nat.and_le_left (bl_lt _)
theorem sw_run (lo hi i : Nat) (A B : Int) (hA : A = (hi : Int) + 1 - 64 * (i : Int)) (hB : B = (lo : Int) - 64 * (i : Int)) : bits .andNot .u64 (bl A : Nat) (bl B : Nat) = (sw lo hi i : Nat) := by
  subst hA hB
  exact u64_andNot_nat _ _ (bl_lt _) (bl_lt _)
set_option maxHeartbeats 2000000 in
set_option maxRecDepth 100000 in
theorem span_c (lo hi : Nat) (h1 : lo < 256) (h2 : hi < 256) (w : World) : Calls Tryd.prog 148 #[.int .u8 (lo : Int), .int .u8 (hi : Int)] w fun e w' => ∃ rs, e = .returned (sv rs) ∧ IsSet rs (fun q => decide (lo ≤ q) && decide (q ≤ hi)) ∧ Below w.heap.size w w' := by
  have hB := (Below.refl w.heap.size w)
  by_cases hlh : lo ≤ hi
  · have hres : IsSet [sw lo hi 0, sw lo hi 1, sw lo hi 2, sw lo hi 3] (fun q => decide (lo ≤ q) && decide (q ≤ hi)) := by
      refine isSet_of (by intro x hx; simp at hx; rcases hx with rfl | rfl | rfl | rfl <;> exact sw_lt _ _ _) fun i hi' t ht => ?_
      have hi4 : i = 0 ∨ i = 1 ∨ i = 2 ∨ i = 3 := by omega
      rcases hi4 with rfl | rfl | rfl | rfl <;> exact sw_bit _ _ _ _ ht
    have a0 := sw_run lo hi 0 ((hi : Int) + 1) (lo : Int) (by omega) (by omega)
    have a1 := sw_run lo hi 1 ((hi : Int) + 1 - 64) ((lo : Int) - 64) (by omega) (by omega)
    have a2 := sw_run lo hi 2 ((hi : Int) + 1 - 128) ((lo : Int) - 128) (by omega) (by omega)
    have a3 := sw_run lo hi 3 ((hi : Int) + 1 - 192) ((lo : Int) - 192) (by omega) (by omega)
    have hd : decide ((hi : Int) < (lo : Int)) = false := by simp; omega
    have HR := Lib.hid hres
    clear hres
    generalize sw lo hi 0 = s0 at *
    generalize sw lo hi 1 = s1 at *
    generalize sw lo hi 2 = s2 at *
    generalize sw lo hi 3 = s3 at *
    go_enter Tryd.func148, Tryd.ntmps148
    go_wp2
    refine wp_loop_rounds 5 ?_
    rw [rounds_succ]
    go_wp2_with fail
    refine (below_c _ (by omega) (by omega) _).mono ?_
    rintro e w1 ⟨rfl, rfl⟩
    go_wp2_with fail
    refine (below_c _ (by omega) (by omega) _).mono ?_
    rintro e w1 ⟨rfl, rfl⟩
    go_wp2
    rw [rounds_succ]
    go_wp2_with fail
    refine (below_c _ (by omega) (by omega) _).mono ?_
    rintro e w1 ⟨rfl, rfl⟩
    go_wp2_with fail
    refine (below_c _ (by omega) (by omega) _).mono ?_
    rintro e w1 ⟨rfl, rfl⟩
    go_wp2
    rw [rounds_succ]
    go_wp2_with fail
    refine (below_c _ (by omega) (by omega) _).mono ?_
    rintro e w1 ⟨rfl, rfl⟩
    go_wp2_with fail
    refine (below_c _ (by omega) (by omega) _).mono ?_
    rintro e w1 ⟨rfl, rfl⟩
    go_wp2
    rw [rounds_succ]
    go_wp2_with fail
    refine (below_c _ (by omega) (by omega) _).mono ?_
    rintro e w1 ⟨rfl, rfl⟩
    go_wp2_with fail
    refine (below_c _ (by omega) (by omega) _).mono ?_
    rintro e w1 ⟨rfl, rfl⟩
    go_wp2
    rw [rounds_succ]
    go_wp2
    ((try simp only [Exit.inBlock, Exit.then]); refine bodyPost_ret (results_cell_row rfl _ _ (w.heap.size) 25 ?cs1 (0, 0) _ rfl ?hg1 Tryd.underlying25 rfl ?hi1) rfl ?_; (case hg1 => first | exact heap_alloc2_new _ _ _ | exact Kt.heap_alloc3_new _ _ _ _ | exact Kt.heap_alloc2_old _ _ _); (case hi1 => kernel_rfl))
    exact ⟨_, rfl, HR.out, (hB.alloc (Nat.le_refl _) _).alloc (by simp) _⟩
  · have hres : IsSet [0, 0, 0, 0] (fun q => decide (lo ≤ q) && decide (q ≤ hi)) := by
      refine ⟨rfl, zero_set.lt, fun c hc => ?_⟩
      rw [zero_set.at' c hc]
      simp
      omega
    have hd : decide ((hi : Int) < (lo : Int)) = true := by simp; omega
    have HR := Lib.hid hres
    clear hres
    go_enter Tryd.func148, Tryd.ntmps148
    go_wp2
    ((try simp only [Exit.inBlock, Exit.then]); refine bodyPost_ret (results_cell_row rfl _ _ (w.heap.size) 25 ?cs2 (0, 0) _ rfl ?hg2 Tryd.underlying25 rfl ?hi2) rfl ?_; (case hg2 => first | exact heap_alloc2_new _ _ _ | exact Kt.heap_alloc3_new _ _ _ _ | exact Kt.heap_alloc2_old _ _ _); (case hi2 => kernel_rfl))
    exact ⟨_, rfl, HR.out, (hB.alloc (Nat.le_refl _) _).alloc (by simp) _⟩
theorem all_nil {ws : List Nat} (hl : ws.length = 4) (hlt : ∀ x ∈ ws, x < 18446744073709551616) : ws = [0, 0, 0, 0] ↔ all ws = [] := by
  constructor
  · rintro rfl
    decide +kernel
  · intro h
    refine (isSet_self hl hlt).unique ⟨rfl, zero_set.lt, fun c hc => ?_⟩
    rw [zero_set.at' c hc]
    cases hh : has ws c with
    | false => rfl
    | true =>
      have : c ∈ all ws := by
        unfold all
        rw [List.mem_filter]
        exact ⟨by rw [hl]; simpa using hc, hh⟩
      rw [h] at this
      cases this

/-- The loop of Of. -/
def OfR (w : World) (l : List UInt8) (i : Value) (W : World) : Prop := ∃ (k : Nat) (rs : List Nat), k ≤ l.length ∧ i = .int .i64 (k : Int) ∧ IsSet rs (fun q => (l.take k).any fun c => decide (c.toNat = q)) ∧
  W.heap[w.heap.size]? = some (.cells #[.int .u64 0, .int .u64 0, .int .u64 0, .int .u64 0] 25 (0, 0)) ∧ W.heap[w.heap.size + 1]? = some (.cells (vals rs).toArray 25 (0, 0)) ∧ Below w.heap.size w W
theorem put_set {rs : List Nat} {f : Nat → Bool} (h : IsSet rs f) (c : Nat) (hc : c < 256) : IsSet (put rs c) (fun q => f q || decide (c = q)) := by
  refine ⟨by rw [put_len]; exact h.len, put_lt h.lt c, fun q hq => ?_⟩
  rw [has_put (by rw [h.len]; omega), h.at' q hq]
  congr 1
  exact decide_eq_decide.2 eq_comm
set_option maxHeartbeats 2000000 in
set_option maxRecDepth 100000 in
theorem of_c (a : Option Addr) (cap n : Nat) (l : List UInt8) (w : World) (hn : l.length = n) (hl : n ≤ 1000000) (hr : Rd w a (u8s l)) : Calls Tryd.prog 23 #[.slice a n cap] w fun e w' => ∃ rs, e = .returned (sv rs) ∧ IsSet rs (fun q => l.any fun c => decide (c.toNat = q)) ∧ Below w.heap.size w w' := by
  have hr0 := Kt.heap_alloc2_old w (.cells #[.int .u64 0, .int .u64 0, .int .u64 0, .int .u64 0] 25) (.cells #[.int .u64 0, .int .u64 0, .int .u64 0, .int .u64 0] 25)
  have hr1 := heap_alloc2_new w (.cells #[.int .u64 0, .int .u64 0, .int .u64 0, .int .u64 0] 25) (.cells #[.int .u64 0, .int .u64 0, .int .u64 0, .int .u64 0] 25)
  have hB0 := ((Below.refl w.heap.size w).alloc (Nat.le_refl _) (.cells #[.int .u64 0, .int .u64 0, .int .u64 0, .int .u64 0] 25)).alloc (by simp) (.cells #[.int .u64 0, .int .u64 0, .int .u64 0, .int .u64 0] 25)
  have H0 := Lib.hid hr0
  have H1 := Lib.hid hr1
  have HB0 := Lib.hid hB0
  have Hn := Lib.hid hn
  have HR := Lib.hid hr
  clear hr0 hr1 hB0 hn hr
  go_enter Tryd.func23, Tryd.ntmps23
  go_wp2
  go_loopw [5, 8] (fun _ i W => OfR w l i W) (fun _ i _ => n - (intOf i).toNat)
  case atStart => exact ⟨0, [0, 0, 0, 0], Nat.zero_le _, rfl, ⟨rfl, zero_set.lt, fun c hc => by rw [zero_set.at' c hc]; simp⟩, H0.out, H1.out, HB0.out⟩
  case round =>
    obtain ⟨k, rs, hk, rfl, hset, hz, hb, hB⟩ := hrel
    rw [Hn.out] at hk
    by_cases hlt : k < n
    · have hkl : k < l.length := by rw [Hn.out]; exact hlt
      obtain ⟨bb, off, ha, hc⟩ := (HR.out.keep hB).u8 k hkl
      subst ha
      have htk : (l.take (k + 1)).any (fun _ => true) = true ∨ True := .inr trivial
      have hany : ∀ q, ((l.take (k + 1)).any fun c => decide (c.toNat = q)) = (((l.take k).any fun c => decide (c.toNat = q)) || decide (l[k].toNat = q)) := by
        intro q
        rw [← List.take_append_getElem hkl, List.any_append]
        simp only [List.any_cons, List.any_nil, Bool.or_false]
      have hc256 := l[k].toNat_lt
      have hput := put_set hset l[k].toNat hc256
      have hset2 : IsSet (put rs l[k].toNat) (fun q => (l.take (k + 1)).any fun c => decide (c.toNat = q)) := ⟨hput.len, hput.lt, fun q hq => by rw [hput.at' q hq, hany]⟩
      clear htk hany hput
      generalize l[k].toNat = c at *
      obtain ⟨kk, hkk⟩ : ∃ kk, c / 64 = kk := ⟨_, rfl⟩
      have hk4 : kk < 4 := by omega
      have hkr : kk < rs.length := by rw [hset.len]; exact hk4
      obtain ⟨m, hm⟩ : ∃ m, 2 ^ (c % 64) = m := ⟨_, rfl⟩
      have hwp := Mk.wrap_pow (by omega) hm
      have hm64 : m < 18446744073709551616 := by
        have : (2 : Nat) ^ (c % 64) < 2 ^ 64 := Nat.pow_lt_pow_right (by decide) (by omega)
        omega
      have hck : (c : Int) / 64 = (kk : Int) := by omega
      have hgd : rs.getD kk 0 = rs[kk] := by rw [List.getD_eq_getElem?_getD, List.getElem?_eq_getElem hkr]; rfl
      have hor := bits_or_u64_nat rs[kk] m (hset.lt _ (List.getElem_mem hkr)) hm64
      have cw : wr.cell? ⟨w.heap.size + 1, kk, none⟩ = some (.int .u64 (rs[kk] : Int)) := by
        rw [cell_block hb]
        simp [vals, hkr]
      have fw := frozen_block hb kk
      have hb2 : (wr.setCell ⟨w.heap.size + 1, kk, none⟩ (.int .u64 ((rs[kk] ||| m : Nat) : Int))).heap[w.heap.size + 1]? = some (.cells (vals (put rs c)).toArray 25 (0, 0)) := by
        rw [block_setCell hb]
        congr 2
        apply Array.toList_inj.1
        unfold put
        rw [hkk, hm, hgd]
        simp [vals, List.map_set]
      have hz2 : (wr.setCell ⟨w.heap.size + 1, kk, none⟩ (.int .u64 ((rs[kk] ||| m : Nat) : Int))).heap[w.heap.size]? = some (.cells #[.int .u64 0, .int .u64 0, .int .u64 0, .int .u64 0] 25 (0, 0)) := by
        rw [block_setOther (by omega)]
        exact hz
      have hB2 := hB.setCell (p := ⟨w.heap.size + 1, kk, none⟩) (Nat.le_succ _) (.int .u64 ((rs[kk] ||| m : Nat) : Int))
      have HS := Lib.hid hset2
      have Hb := Lib.hid hb2
      have Hz := Lib.hid hz2
      have HB := Lib.hid hB2
      clear hset hset2 hb hb2 hz hz2 hB hB2 hgd hm hkk
      generalize (rs[kk] ||| m) = z at *
      generalize rs[kk] = x at *
      go_wp2
      go_roundw
      case rel => first | exact ⟨k + 1, put rs c, hkl, by go_num, HS.out, Hz.out, Hb.out, HB.out⟩ | ((repeat apply Exists.intro); refine ⟨?r, ?f⟩; (case f => (and_intros <;> rfl)); exact ⟨k + 1, put rs c, hkl, by go_num, HS.out, Hz.out, Hb.out, HB.out⟩)
      case measure => simp [intOf]; omega
    · have hkn : k = n := by omega
      subst hkn
      rw [List.take_of_length_le (by rw [Hn.out]; exact Nat.le_refl _)] at hset
      obtain ⟨x0, x1, x2, x3, rfl⟩ := four hset.len
      have hb' : wr.heap[w.heap.size + 1]? = some (.cells #[.int .u64 (x0 : Int), .int .u64 (x1 : Int), .int .u64 (x2 : Int), .int .u64 (x3 : Int)] 25 (0, 0)) := hb
      have c0 := cell_block hb' 0
      have c1 := cell_block hb' 1
      have c2 := cell_block hb' 2
      have c3 := cell_block hb' 3
      have k0 := cell_block hz 0
      have k1 := cell_block hz 1
      have k2 := cell_block hz 2
      have k3 := cell_block hz 3
      have f0 := frozen_block hz 0
      have f1 := frozen_block hz 1
      have f2 := frozen_block hz 2
      have f3 := frozen_block hz 3
      simp at c0 c1 c2 c3 k0 k1 k2 k3
      have HS := Lib.hid (store4 hz (.int .u64 (x0 : Int)) (.int .u64 (x1 : Int)) (.int .u64 (x2 : Int)) (.int .u64 (x3 : Int)))
      have HSet := Lib.hid hset
      have HB := Lib.hid hB
      clear hb hb' hz hset hB
      go_wp2
      ((try simp only [Exit.inBlock, Exit.then]); refine bodyPost_ret (results_cell_row rfl _ _ (w.heap.size) 25 _ (0, 0) _ rfl (HS.out) Tryd.underlying25 rfl ?hi3) rfl ?_; (case hi3 => kernel_rfl))
      exact ⟨_, rfl, HSet.out, (((HB.out.setCell (p := ⟨w.heap.size, 0, none⟩) (Nat.le_refl _) _).setCell (p := ⟨w.heap.size, 1, none⟩) (Nat.le_refl _) _).setCell (p := ⟨w.heap.size, 2, none⟩) (Nat.le_refl _) _).setCell (p := ⟨w.heap.size, 3, none⟩) (Nat.le_refl _) _⟩
end St
end Go.Proofs.YtmfcabidmacdcaaDoor
