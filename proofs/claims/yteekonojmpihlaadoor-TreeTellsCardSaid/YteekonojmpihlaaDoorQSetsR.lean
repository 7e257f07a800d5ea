import Derived.Test.YteekonojmpihlaaDoorQSets5
import Derived.Test.YteekonojmpihlaaDoorQMarks
import Derived.Laws.StructEq
import Derived.Laws.BitsAllLaws
/- The walks of package sets: Has, Empty, Minus, One, below. -/
namespace Go.Proofs.YteekonojmpihlaaDoor
open Go Go.RowKit Kt
namespace St
open Mk
/-- Two sets held against one another. -/
theorem eq_run (xs ys : List Nat) (hx : xs.length = 4) (hy : ys.length = 4) (w : World) : (binOp .eql 34 (sv xs) (sv ys)).run Tryd.prog w = .ok (.bool (decide (xs = ys))) w := by
  obtain ⟨x0, x1, x2, x3, rfl⟩ := four hx
  obtain ⟨y0, y1, y2, y3, rfl⟩ := four hy
  have u3 := Tryd.underlying32
  obtain ⟨i, hi⟩ : ∃ i, Tryd.prog.info? 32 = some i := Option.isSome_iff_exists.1 (by kernel_rfl)
  have hce : Tryd.prog.cellsOf 32 = 1 := by kernel_rfl
  simp only [sv, vals, List.map_cons, List.map_nil]
  rw [run_eql_struct, show (10000 : Nat) = 9999 + 1 from rfl, run_equalIn_array (P := Tryd.prog) w 9999 _ _ Tryd.underlying34 hi, hce]
  rw [show List.range 4 = [0, 1, 2, 3] from rfl]
  simp only [Op.eqItems]
  go_simp
  by_cases h0 : x0 = y0 <;> by_cases h1 : x1 = y1 <;> by_cases h2 : x2 = y2 <;> by_cases h3 : x3 = y3 <;> simp [h0, h1, h2, h3] <;> (intros; omega)
set_option maxHeartbeats 1000000 in
set_option maxRecDepth 100000 in
theorem one_c (c : Nat) (hc : c < 256) (w : World) : Calls Tryd.prog 53 #[.int .u8 (c : Int)] w fun e w' => ∃ rs, e = .returned (sv rs) ∧ IsSet rs (fun q => decide (q = c)) ∧ Below w.heap.size w w' := by
  have hw := Mk.wrap_pow (t := c % 64) (m := 2 ^ (c % 64)) (by omega) rfl
  have hp : 2 ^ (c % 64) < 18446744073709551616 := Nat.pow_lt_pow_right (m := c % 64) (n := 64) (by decide) (by omega)
  have hbit : ∀ t, (2 ^ (c % 64)).testBit t = decide (c % 64 = t) := fun t => Nat.testBit_two_pow
  obtain ⟨k, hk⟩ : ∃ k, c / 64 = k := ⟨_, rfl⟩
  have hk4 : k = 0 ∨ k = 1 ∨ k = 2 ∨ k = 3 := by omega
  have hck : (c : Int) / 64 = (k : Int) := by omega
  have hB := (Below.refl w.heap.size w)
  obtain ⟨m, hm⟩ : ∃ m, 2 ^ (c % 64) = m := ⟨_, rfl⟩
  rw [hm] at hw hp hbit
  rcases hk4 with rfl | rfl | rfl | rfl
  · have hck' : (c : Int) / 64 = 0 := hck
    have hres : IsSet [m, 0, 0, 0] (fun q => decide (q = c)) := by
      refine isSet_of (by intro x hx; simp at hx; omega) fun i hi t ht => ?_
      have hi4 : i = 0 ∨ i = 1 ∨ i = 2 ∨ i = 3 := by omega
      rcases hi4 with rfl | rfl | rfl | rfl <;> simp [hbit] <;> omega
    have HR := Lib.hid hres
    clear hres hck hbit hm
    go_enter Tryd.func53, Tryd.ntmps53
    go_wp2
    ((try simp only [Exit.inBlock, Exit.then]); refine bodyPost_ret (results_cell_row rfl _ _ (w.heap.size) 34 ?cs1 (0, 0) _ rfl ?hg1 Tryd.underlying34 rfl ?hi1) rfl ?_; (case hg1 => first | exact heap_alloc2_new _ _ _ | exact Kt.heap_alloc3_new _ _ _ _ | exact Kt.heap_alloc2_old _ _ _); (case hi1 => kernel_rfl))
    exact ⟨_, rfl, HR.out, (hB.alloc (Nat.le_refl _) _).alloc (by simp) _⟩
  · have hck' : (c : Int) / 64 = 1 := hck
    have hres : IsSet [0, m, 0, 0] (fun q => decide (q = c)) := by
      refine isSet_of (by intro x hx; simp at hx; omega) fun i hi t ht => ?_
      have hi4 : i = 0 ∨ i = 1 ∨ i = 2 ∨ i = 3 := by omega
      rcases hi4 with rfl | rfl | rfl | rfl <;> simp [hbit] <;> omega
    have HR := Lib.hid hres
    clear hres hck hbit hm
    go_enter Tryd.func53, Tryd.ntmps53
    go_wp2
    ((try simp only [Exit.inBlock, Exit.then]); refine bodyPost_ret (results_cell_row rfl _ _ (w.heap.size) 34 ?cs2 (0, 0) _ rfl ?hg2 Tryd.underlying34 rfl ?hi2) rfl ?_; (case hg2 => first | exact heap_alloc2_new _ _ _ | exact Kt.heap_alloc3_new _ _ _ _ | exact Kt.heap_alloc2_old _ _ _); (case hi2 => kernel_rfl))
    exact ⟨_, rfl, HR.out, (hB.alloc (Nat.le_refl _) _).alloc (by simp) _⟩
  · have hck' : (c : Int) / 64 = 2 := hck
    have hres : IsSet [0, 0, m, 0] (fun q => decide (q = c)) := by
      refine isSet_of (by intro x hx; simp at hx; omega) fun i hi t ht => ?_
      have hi4 : i = 0 ∨ i = 1 ∨ i = 2 ∨ i = 3 := by omega
      rcases hi4 with rfl | rfl | rfl | rfl <;> simp [hbit] <;> omega
    have HR := Lib.hid hres
    clear hres hck hbit hm
    go_enter Tryd.func53, Tryd.ntmps53
    go_wp2
    ((try simp only [Exit.inBlock, Exit.then]); refine bodyPost_ret (results_cell_row rfl _ _ (w.heap.size) 34 ?cs3 (0, 0) _ rfl ?hg3 Tryd.underlying34 rfl ?hi3) rfl ?_; (case hg3 => first | exact heap_alloc2_new _ _ _ | exact Kt.heap_alloc3_new _ _ _ _ | exact Kt.heap_alloc2_old _ _ _); (case hi3 => kernel_rfl))
    exact ⟨_, rfl, HR.out, (hB.alloc (Nat.le_refl _) _).alloc (by simp) _⟩
  · have hck' : (c : Int) / 64 = 3 := hck
    have hres : IsSet [0, 0, 0, m] (fun q => decide (q = c)) := by
      refine isSet_of (by intro x hx; simp at hx; omega) fun i hi t ht => ?_
      have hi4 : i = 0 ∨ i = 1 ∨ i = 2 ∨ i = 3 := by omega
      rcases hi4 with rfl | rfl | rfl | rfl <;> simp [hbit] <;> omega
    have HR := Lib.hid hres
    clear hres hck hbit hm
    go_enter Tryd.func53, Tryd.ntmps53
    go_wp2
    ((try simp only [Exit.inBlock, Exit.then]); refine bodyPost_ret (results_cell_row rfl _ _ (w.heap.size) 34 ?cs4 (0, 0) _ rfl ?hg4 Tryd.underlying34 rfl ?hi4) rfl ?_; (case hg4 => first | exact heap_alloc2_new _ _ _ | exact Kt.heap_alloc3_new _ _ _ _ | exact Kt.heap_alloc2_old _ _ _); (case hi4 => kernel_rfl))
    exact ⟨_, rfl, HR.out, (hB.alloc (Nat.le_refl _) _).alloc (by simp) _⟩
end St
end Go.Proofs.YteekonojmpihlaaDoor

/- The walks of package sets: below, Span, Empty, Minus, Of. -/
namespace Go.Proofs.YteekonojmpihlaaDoor
open Go Go.RowKit Kt
namespace St
open Mk

theorem put_set {rs : List Nat} {f : Nat → Bool} (h : IsSet rs f) (c : Nat) (hc : c < 256) : IsSet (put rs c) (fun q => f q || decide (c = q)) := by
  refine ⟨by rw [put_len]; exact h.len, put_lt h.lt c, fun q hq => ?_⟩
  rw [has_put (by rw [h.len]; omega), h.at' q hq]
  congr 1
  exact decide_eq_decide.2 eq_comm

end St
end Go.Proofs.YteekonojmpihlaaDoor

/- The document's sets: dofferref01.Has, Of. -/
namespace Go.Proofs.YteekonojmpihlaaDoor
open Go Go.RowKit Kt
namespace St
open Mk
def bools (l : List Bool) : List Value := l.map .bool
theorem Rd.bool {w : World} {a : Option Addr} {l : List Bool} (h : Rd w a (bools l)) (i : Nat) (hi : i < l.length) : ∃ b off, a = some ⟨b, off, none⟩ ∧ w.cell? ⟨b, off + i, none⟩ = some (.bool l[i]) := Rd.map_at h i hi
theorem shift_word (x t m : Nat) (hx : x < 18446744073709551616) (hm : 2 ^ t = m) (v : Bool) (hv : x.testBit t = v) : (IntKind.u64.wrap ((x : Int) / (m : Int))).tmod 2 = if v then 1 else 0 := by
  have e0 : (x : Int) / (m : Int) = ((x / m : Nat) : Int) := (Int.natCast_ediv x m).symm
  have e1 : x / m < 18446744073709551616 := Nat.lt_of_le_of_lt (Nat.div_le_self _ _) hx
  rw [e0, IntKind.wrap_u64, tmod_of_emod]
  subst hm hv
  have h : (x / 2 ^ t).testBit 0 = x.testBit (0 + t) := Nat.testBit_div_two_pow x 0
  rw [Nat.testBit_zero, Nat.zero_add] at h
  rw [← h]
  generalize x / 2 ^ t = z at *
  by_cases hh : z % 2 = 1
  · simp only [hh, decide_true, if_true]
    omega
  · simp only [hh, decide_false, Bool.false_eq_true, if_false]
    omega
set_option maxHeartbeats 1000000 in
set_option maxRecDepth 100000 in
theorem rhas_c (ws : List Nat) (f : Nat → Bool) (hw : IsSet ws f) (c : Nat) (hc : c < 256) (w : World) : Calls Tryd.prog 87 #[sv ws, .int .i64 (c : Int)] w fun e w' => e = .returned (.bool (f c)) ∧ Below w.heap.size w w' := by
  obtain ⟨x0, x1, x2, x3, rfl⟩ := four hw.len
  have hf := hw.at' c hc
  unfold has at hf
  obtain ⟨k, hk⟩ : ∃ k, c / 64 = k := ⟨_, rfl⟩
  have hk4 : k = 0 ∨ k = 1 ∨ k = 2 ∨ k = 3 := by omega
  have hck : (c : Int) / 64 = (k : Int) := by omega
  have HB := Lib.hid (Below.refl w.heap.size w)
  have hlt := hw.lt
  rw [hk] at hf
  clear hw hk
  obtain ⟨m, hm⟩ : ∃ m, 2 ^ (c % 64) = m := ⟨_, rfl⟩
  have hwp := Mk.wrap_pow (by omega) hm
  have hm0 : ¬ m = 0 := by
    have : 0 < (2 : Nat) ^ (c % 64) := Nat.pow_pos (by decide)
    omega
  simp only [sv, vals, List.map_cons, List.map_nil]
  obtain ⟨v, hv⟩ : ∃ v, f c = v := ⟨_, rfl⟩
  rw [hv] at hf ⊢
  rcases hk4 with rfl | rfl | rfl | rfl
  · have hf' : x0.testBit (c % 64) = v := hf
    have hck' : (c : Int) / 64 = 0 := hck
    have hsh := shift_word x0 (c % 64) m (hlt x0 (by simp)) hm v hf'
    clear hf hf' hlt hck hv hm
    cases v
    · have hsh' : (IntKind.u64.wrap ((x0 : Int) / (m : Int))).tmod 2 = 0 := hsh
      clear hsh
      go_enter Tryd.func87, Tryd.ntmps87
      go_wp2
      go_ret
      exact ⟨rfl, HB.out.alloc (Nat.le_refl _) _⟩
    · have hsh' : (IntKind.u64.wrap ((x0 : Int) / (m : Int))).tmod 2 = 1 := hsh
      clear hsh
      go_enter Tryd.func87, Tryd.ntmps87
      go_wp2
      go_ret
      exact ⟨rfl, HB.out.alloc (Nat.le_refl _) _⟩
  · have hf' : x1.testBit (c % 64) = v := hf
    have hck' : (c : Int) / 64 = 1 := hck
    have hsh := shift_word x1 (c % 64) m (hlt x1 (by simp)) hm v hf'
    clear hf hf' hlt hck hv hm
    cases v
    · have hsh' : (IntKind.u64.wrap ((x1 : Int) / (m : Int))).tmod 2 = 0 := hsh
      clear hsh
      go_enter Tryd.func87, Tryd.ntmps87
      go_wp2
      go_ret
      exact ⟨rfl, HB.out.alloc (Nat.le_refl _) _⟩
    · have hsh' : (IntKind.u64.wrap ((x1 : Int) / (m : Int))).tmod 2 = 1 := hsh
      clear hsh
      go_enter Tryd.func87, Tryd.ntmps87
      go_wp2
      go_ret
      exact ⟨rfl, HB.out.alloc (Nat.le_refl _) _⟩
  · have hf' : x2.testBit (c % 64) = v := hf
    have hck' : (c : Int) / 64 = 2 := hck
    have hsh := shift_word x2 (c % 64) m (hlt x2 (by simp)) hm v hf'
    clear hf hf' hlt hck hv hm
    cases v
    · have hsh' : (IntKind.u64.wrap ((x2 : Int) / (m : Int))).tmod 2 = 0 := hsh
      clear hsh
      go_enter Tryd.func87, Tryd.ntmps87
      go_wp2
      go_ret
      exact ⟨rfl, HB.out.alloc (Nat.le_refl _) _⟩
    · have hsh' : (IntKind.u64.wrap ((x2 : Int) / (m : Int))).tmod 2 = 1 := hsh
      clear hsh
      go_enter Tryd.func87, Tryd.ntmps87
      go_wp2
      go_ret
      exact ⟨rfl, HB.out.alloc (Nat.le_refl _) _⟩
  · have hf' : x3.testBit (c % 64) = v := hf
    have hck' : (c : Int) / 64 = 3 := hck
    have hsh := shift_word x3 (c % 64) m (hlt x3 (by simp)) hm v hf'
    clear hf hf' hlt hck hv hm
    cases v
    · have hsh' : (IntKind.u64.wrap ((x3 : Int) / (m : Int))).tmod 2 = 0 := hsh
      clear hsh
      go_enter Tryd.func87, Tryd.ntmps87
      go_wp2
      go_ret
      exact ⟨rfl, HB.out.alloc (Nat.le_refl _) _⟩
    · have hsh' : (IntKind.u64.wrap ((x3 : Int) / (m : Int))).tmod 2 = 1 := hsh
      clear hsh
      go_enter Tryd.func87, Tryd.ntmps87
      go_wp2
      go_ret
      exact ⟨rfl, HB.out.alloc (Nat.le_refl _) _⟩
/-- A bit not yet set, added. -/
theorem add_bit {x t m : Nat} (hm : 2 ^ t = m) (h : ∀ s, t ≤ s → x.testBit s = false) : x + m = x ||| m := by
  subst hm
  have hx : x < 2 ^ t := Nat.lt_pow_two_of_testBit x fun s hs => h s hs
  have := Nat.two_pow_add_eq_or_of_lt hx 1
  rw [Nat.mul_one] at this
  rw [Nat.add_comm, this, Nat.or_comm]
/-- The loop of Of. -/
def RoR (w : World) (l : List Bool) (i : Value) (W : World) : Prop := ∃ (k : Nat) (rs : List Nat), k ≤ 256 ∧ i = .int .i64 (k : Int) ∧ IsSet rs (fun q => decide (q < k) && l.getD q false) ∧
  W.heap[w.heap.size]? = some (.cells #[.int .u64 0, .int .u64 0, .int .u64 0, .int .u64 0] 33 (0, 0)) ∧ W.heap[w.heap.size + 1]? = some (.cells (vals rs).toArray 33 (0, 0)) ∧ Below w.heap.size w W
set_option maxHeartbeats 2000000 in
set_option maxRecDepth 100000 in
theorem rof_c (a : Option Addr) (cap n : Nat) (l : List Bool) (w : World) (hn : l.length = n) (hn256 : n = 256) (hr : Rd w a (bools l)) : Calls Tryd.prog 139 #[.slice a n cap] w fun e w' => ∃ rs, e = .returned (sv rs) ∧ IsSet rs (fun q => l.getD q false) ∧ Below w.heap.size w w' := by
  have hr0 := Kt.heap_alloc2_old w (.cells #[.int .u64 0, .int .u64 0, .int .u64 0, .int .u64 0] 33) (.cells #[.int .u64 0, .int .u64 0, .int .u64 0, .int .u64 0] 33)
  have hr1 := heap_alloc2_new w (.cells #[.int .u64 0, .int .u64 0, .int .u64 0, .int .u64 0] 33) (.cells #[.int .u64 0, .int .u64 0, .int .u64 0, .int .u64 0] 33)
  have hB0 := ((Below.refl w.heap.size w).alloc (Nat.le_refl _) (.cells #[.int .u64 0, .int .u64 0, .int .u64 0, .int .u64 0] 33)).alloc (by simp) (.cells #[.int .u64 0, .int .u64 0, .int .u64 0, .int .u64 0] 33)
  have hbd : ∀ w, (Instr.build 33 #[]).run Tryd.prog w = .ok (.agg #[.int .u64 0, .int .u64 0, .int .u64 0, .int .u64 0]) w := fun w => by kernel_rfl
  have H0 := Lib.hid hr0
  have H1 := Lib.hid hr1
  have HB0 := Lib.hid hB0
  have Hn := Lib.hid hn
  have HR := Lib.hid hr
  clear hr0 hr1 hB0 hn hr
  go_enter Tryd.func139, Tryd.ntmps139
  go_wp2
  go_loopw [4] (fun i W => RoR w l i W) (fun i _ => 256 - (intOf i).toNat)
  case atStart => exact ⟨0, [0, 0, 0, 0], Nat.zero_le _, rfl, ⟨rfl, zero_set.lt, fun c hc => by rw [zero_set.at' c hc]; simp⟩, H0.out, H1.out, HB0.out⟩
  case round =>
    obtain ⟨c, rs, hk, rfl, hset, hz, hb, hB⟩ := hrel
    by_cases hlt : c < 256
    · have hkl : c < l.length := by rw [Hn.out]; omega
      obtain ⟨bb, off, ha, hc⟩ := Rd.bool (HR.out.keep hB) c hkl
      subst ha
      have hgl : l.getD c false = l[c] := by rw [List.getD_eq_getElem?_getD, List.getElem?_eq_getElem hkl]; rfl
      obtain ⟨v, hv⟩ : ∃ v, l[c] = v := ⟨_, rfl⟩
      rw [hv] at hc hgl
      have hcn : c < n := by omega
      cases v
      · have hset2 : IsSet rs (fun q => decide (q < c + 1) && l.getD q false) := ⟨hset.len, hset.lt, fun q hq => by
          rw [hset.at' q hq]
          by_cases hqc : q = c
          · subst hqc; rw [hgl]; simp
          · congr 1; apply decide_eq_decide.2; omega⟩
        have HS := Lib.hid hset2
        have Hb := Lib.hid hb
        have Hz := Lib.hid hz
        have HB := Lib.hid hB
        clear hset hset2 hb hz hB hgl hv
        go_wp2
        go_roundw
        case rel => first | exact ⟨c + 1, rs, by omega, by go_num, HS.out, Hz.out, Hb.out, HB.out⟩ | ((repeat apply Exists.intro); refine ⟨?r, ?f⟩; (case f => (and_intros <;> rfl)); exact ⟨c + 1, rs, by omega, by go_num, HS.out, Hz.out, Hb.out, HB.out⟩)
        case measure => simp [intOf]; omega
      · obtain ⟨kk, hkk⟩ : ∃ kk, c / 64 = kk := ⟨_, rfl⟩
        have hk4 : kk < 4 := by omega
        have hkr : kk < rs.length := by rw [hset.len]; exact hk4
        obtain ⟨m, hm⟩ : ∃ m, 2 ^ (c % 64) = m := ⟨_, rfl⟩
        have hwp := Mk.wrap_pow (by omega) hm
        have hm64 : m < 18446744073709551616 := by
          have : (2 : Nat) ^ (c % 64) < 2 ^ 64 := Nat.pow_lt_pow_right (by decide) (by omega)
          omega
        have hck : (c : Int) / 64 = (kk : Int) := by omega
        have hgd : rs.getD kk 0 = rs[kk] := by rw [List.getD_eq_getElem?_getD, List.getElem?_eq_getElem hkr]; rfl
        have hclr : ∀ s, c % 64 ≤ s → rs[kk].testBit s = false := by
          intro s hs
          by_cases hs64 : s < 64
          · rw [← hgd, ← has_word _ _ _ hs64, hset.at' _ (by omega)]
            have : decide (64 * kk + s < c) = false := by simp; omega
            rw [this, Bool.false_and]
          · exact Nat.testBit_lt_two_pow (Nat.lt_of_lt_of_le (hset.lt _ (List.getElem_mem hkr)) (Nat.pow_le_pow_right (n := 2) (by decide) (show 64 ≤ s by omega)))
        have hadd := add_bit hm hclr
        have hor64 : (rs[kk] ||| m) < 18446744073709551616 := or64 (hset.lt _ (List.getElem_mem hkr)) hm64
        have hsum : IntKind.u64.wrap ((rs[kk] : Int) + (m : Int)) = ((rs[kk] ||| m : Nat) : Int) := by rw [IntKind.wrap_u64]; omega
        have hput := put_set hset c hlt
        have hset2 : IsSet (put rs c) (fun q => decide (q < c + 1) && l.getD q false) := ⟨hput.len, hput.lt, fun q hq => by
          rw [hput.at' q hq]
          by_cases hqc : q = c
          · subst hqc; rw [hgl]; simp
          · have e1 : decide (c = q) = false := by simp; omega
            rw [e1, Bool.or_false]
            congr 1
            apply decide_eq_decide.2
            omega⟩
        have cw : wr.cell? ⟨w.heap.size + 1, kk, none⟩ = some (.int .u64 (rs[kk] : Int)) := by
          rw [cell_block hb]
          simp [vals, hkr]
        have fw := frozen_block hb kk
        have hb2 : (wr.setCell ⟨w.heap.size + 1, kk, none⟩ (.int .u64 ((rs[kk] ||| m : Nat) : Int))).heap[w.heap.size + 1]? = some (.cells (vals (put rs c)).toArray 33 (0, 0)) := by
          rw [block_setCell hb]
          congr 2
          apply Array.toList_inj.1
          unfold put
          rw [hkk, hm, hgd]
          simp [vals, List.map_set]
        have hz2 : (wr.setCell ⟨w.heap.size + 1, kk, none⟩ (.int .u64 ((rs[kk] ||| m : Nat) : Int))).heap[w.heap.size]? = some (.cells #[.int .u64 0, .int .u64 0, .int .u64 0, .int .u64 0] 33 (0, 0)) := by
          rw [block_setOther (by omega)]
          exact hz
        have hB2 := hB.setCell (p := ⟨w.heap.size + 1, kk, none⟩) (Nat.le_succ _) (.int .u64 ((rs[kk] ||| m : Nat) : Int))
        have HS := Lib.hid hset2
        have Hb := Lib.hid hb2
        have Hz := Lib.hid hz2
        have HB := Lib.hid hB2
        clear hset hset2 hb hb2 hz hz2 hB hB2 hgd hm hkk hput hadd hclr hgl hv
        generalize (rs[kk] ||| m) = z at *
        generalize rs[kk] = x at *
        go_wp2
        go_roundw
        case rel => first | exact ⟨c + 1, put rs c, by omega, by go_num, HS.out, Hz.out, Hb.out, HB.out⟩ | ((repeat apply Exists.intro); refine ⟨?r, ?f⟩; (case f => (and_intros <;> rfl)); exact ⟨c + 1, put rs c, by omega, by go_num, HS.out, Hz.out, Hb.out, HB.out⟩)
        case measure => simp [intOf]; omega
    · have hkn : c = 256 := by omega
      subst hkn
      have hset' : IsSet rs (fun q => l.getD q false) := ⟨hset.len, hset.lt, fun q hq => by
        rw [hset.at' q hq]
        have : decide (q < 256) = true := by simpa using hq
        rw [this, Bool.true_and]⟩
      obtain ⟨x0, x1, x2, x3, rfl⟩ := four hset.len
      have hb' : wr.heap[w.heap.size + 1]? = some (.cells #[.int .u64 (x0 : Int), .int .u64 (x1 : Int), .int .u64 (x2 : Int), .int .u64 (x3 : Int)] 33 (0, 0)) := hb
      have c0 := cell_block hb' 0
      have c1 := cell_block hb' 1
      have c2 := cell_block hb' 2
      have c3 := cell_block hb' 3
      have k0 := cell_block hz 0
      have k1 := cell_block hz 1
      have k2 := cell_block hz 2
      have k3 := cell_block hz 3
      have f0 := frozen_block hz 0
      have f1 := frozen_block hz 1
      have f2 := frozen_block hz 2
      have f3 := frozen_block hz 3
      simp at c0 c1 c2 c3 k0 k1 k2 k3
      have HS := Lib.hid (store4 hz (.int .u64 (x0 : Int)) (.int .u64 (x1 : Int)) (.int .u64 (x2 : Int)) (.int .u64 (x3 : Int)))
      have HSet := Lib.hid hset'
      have HB := Lib.hid hB
      clear hb hb' hz hset hset' hB
      go_wp2
      ((try simp only [Exit.inBlock, Exit.then]); refine bodyPost_ret (results_cell_row rfl _ _ (w.heap.size) 33 _ (0, 0) _ rfl (HS.out) Tryd.underlying33 rfl ?hi1) rfl ?_; (case hi1 => kernel_rfl))
      exact ⟨_, rfl, HSet.out, (((HB.out.setCell (p := ⟨w.heap.size, 0, none⟩) (Nat.le_refl _) _).setCell (p := ⟨w.heap.size, 1, none⟩) (Nat.le_refl _) _).setCell (p := ⟨w.heap.size, 2, none⟩) (Nat.le_refl _) _).setCell (p := ⟨w.heap.size, 3, none⟩) (Nat.le_refl _) _⟩
end St
end Go.Proofs.YteekonojmpihlaaDoor
