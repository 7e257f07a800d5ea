/- Package comb: layable. Printed by gen_cblayable.py. -/
import Derived.Test.YteekonojmpihlaaDoorQCbOwn
namespace Go.Proofs.YteekonojmpihlaaDoor
namespace Kt
end Kt
open Go Go.RowKit Kt
namespace Cb
/-- A strange number. -/
def sgP (m n : Int) : Bool := outb n m
set_option maxRecDepth 100000 in
theorem strange_c (m : Int) (b : Nat) (x : Int) (w : World) (hx : w.cell? ⟨b, 0, none⟩ = some (.int .i64 m)) : Calls Tryd.prog 103 #[.int .i64 x, .pointer (some ⟨b, 0, none⟩)] w fun e w' => e = .returned (.bool (sgP m x)) ∧ w = w' := by
  unfold sgP
  have HO := Lib.hid (out_c x m w)
  go_enter Tryd.func103, Tryd.ntmps103
  go_wp2_with fail
  refine HO.out.mono ?_
  rintro _ _ ⟨rfl, rfl⟩
  go_wp2
  go_ret
  exact ⟨rfl, rfl⟩

set_option maxHeartbeats 1000000 in
set_option maxRecDepth 100000 in
theorem sg_idx (a : Option Addr) (cap n : Nat) (l : List Int) (b : Nat) (m : Int) (w : World) (hn : l.length = n) (h63 : n ≤ 9223372036854775807) (hr : Rd w a (l.map (fun n => Value.int .i64 n))) (hcl : ∀ x ∈ l, Calls Tryd.prog 103 #[.int .i64 x, .pointer (some ⟨b, 0, none⟩)] w fun e w' => e = .returned (.bool (sgP m x)) ∧ w = w') :
    Calls Tryd.prog 122 #[.slice a n cap, .func (.func 103) #[] #[.pointer (some ⟨b, 0, none⟩)]] w fun e w' => (∃ r : Int, e = .returned (.int .i64 r) ∧ decide (0 ≤ r) = l.any (sgP m)) ∧ w = w' := by
  have HC := Lib.hid hcl
  clear hcl
  go_enter Tryd.func122, Tryd.ntmps122
  go_wp2
  go_loopw [5, 8] (fun _ i W => ∃ k : Nat, k ≤ n ∧ i = .int .i64 k ∧ (∀ x ∈ l.take k, (sgP m) x = false) ∧ w = W) (fun _ i _ => n - (intOf i).toNat)
  case atStart => exact ⟨0, Nat.zero_le _, rfl, by simp, rfl⟩
  case round =>
    obtain ⟨k, hk, rfl, hno, rfl⟩ := hrel
    by_cases hlt : k < n
    · have hkl : k < l.length := by omega
      obtain ⟨g, off, ha, hc⟩ := hr.map_at k hkl
      subst ha
      have hnx : (sgP m) l[k] = false → ∀ x ∈ l.take (k + 1), (sgP m) x = false := fun h x hx => by
        rw [← List.take_append_getElem hkl] at hx
        rcases List.mem_append.1 hx with h1 | h1
        · exact hno x h1
        · simp only [List.mem_singleton] at h1; subst h1; exact h
      have hyes : (sgP m) l[k] = true → l.any (sgP m) = true := fun h => List.any_eq_true.2 ⟨l[k], List.getElem_mem hkl, h⟩
      have Hnx := Lib.hid hnx
      have Hyes := Lib.hid hyes
      have HCk := Lib.hid (HC.out l[k] (List.getElem_mem hkl))
      clear hnx hyes hno
      generalize l[k] = x at *
      generalize hfx : (fun n => Value.int .i64 n) x = fx at *
      clear hfx
      cases hv : (sgP m) x with
      | true =>
        rw [hv] at HCk
        have Hv := Lib.hid hv
        clear hv
        go_wp2_with fail
        refine HCk.out.mono ?_
        rintro e w5 ⟨rfl, rfl⟩
        go_wp2
        go_ret
        exact ⟨⟨_, rfl, by rw [Hyes.out Hv.out]; simp⟩, rfl⟩
      | false =>
        rw [hv] at HCk
        have Hv := Lib.hid hv
        clear hv
        go_wp2_with fail
        refine HCk.out.mono ?_
        rintro e w5 ⟨rfl, rfl⟩
        go_wp2
        go_roundw
        case rel => exact ⟨k + 1, by omega, by go_num, Hnx.out Hv.out, by first | trivial | rfl⟩
        case measure => simp [intOf]; omega
    · have hkn : k = n := by omega
      have ha : l.any (sgP m) = false := by
        rw [List.take_of_length_le (by omega)] at hno
        exact List.any_eq_false.2 (fun x hx => by rw [hno x hx]; simp)
      subst hkn
      have Ha := Lib.hid ha
      clear ha hno
      go_wp2
      go_ret
      exact ⟨⟨_, rfl, by rw [Ha.out]; decide⟩, rfl⟩
set_option maxRecDepth 100000 in
theorem sg_any (a : Option Addr) (cap n : Nat) (l : List Int) (b : Nat) (m : Int) (w : World) (hn : l.length = n) (h63 : n ≤ 9223372036854775807) (hr : Rd w a (l.map (fun n => Value.int .i64 n))) (hcl : ∀ x ∈ l, Calls Tryd.prog 103 #[.int .i64 x, .pointer (some ⟨b, 0, none⟩)] w fun e w' => e = .returned (.bool (sgP m x)) ∧ w = w') :
    Calls Tryd.prog 104 #[.slice a n cap, .func (.func 103) #[] #[.pointer (some ⟨b, 0, none⟩)]] w fun e w' => e = .returned (.bool (l.any (sgP m))) ∧ w = w' := by
  have hi := sg_idx a cap n l b m w hn h63 hr hcl
  have HI := Lib.hid hi
  clear hi hr hcl
  go_enter Tryd.func104, Tryd.ntmps104
  go_wp2_with fail
  refine HI.out.mono ?_
  rintro e w1 ⟨⟨r, rfl, h⟩, rfl⟩
  go_wp2
  go_ret
  exact ⟨rfl, rfl⟩

/-- A row that may not be laid. -/
def badRow (f : Nat) (m : Int) (x : IRow) : Bool := decide (x.l.length ≠ f) || x.l.any (sgP m)
set_option maxRecDepth 100000 in
theorem badrow_c (x : IRow) (bm br : Nat) (f : Nat) (m rn : Nat) (rc c0 : Nat) (a0 : Option Addr) (b o : Nat) (hrn : 0 < rn) (w : World) (h1 : w.cell? ⟨bm, 0, none⟩ = some (.int .i64 (m : Int))) (h2 : w.cell? ⟨br, 0, none⟩ = some (.slice (some ⟨b, o, none⟩) rn rc)) (h3 : w.cell? ⟨b, o, none⟩ = some (.slice a0 f c0)) (hx : x.ok w) :
    Calls Tryd.prog 102 #[x.v, .pointer (some ⟨bm, 0, none⟩), .pointer (some ⟨br, 0, none⟩)] w fun e w' => e = .returned (.bool (badRow f m x)) ∧ w = w' := by
  obtain ⟨a, cap, l⟩ := x
  have hr := hx.rd
  have hm := hx.max
  have hc := hx.cap
  unfold IRow.v badRow
  simp only at hr hm hc ⊢
  unfold maxLen at hm
  have hany := sg_any a cap l.length l bm m w rfl (by omega) hr (fun y _ => strange_c m bm y w h1)
  obtain ⟨n, hn⟩ : ∃ n, l.length = n := ⟨_, rfl⟩
  rw [hn] at hany ⊢
  generalize l.any (sgP (m : Int)) = Z at *
  have hi : (0 : Int) < (rn : Int) := by omega
  have HA := Lib.hid hany
  clear hr hm hc hx hany hn
  by_cases he : n = f
  · subst he
    rw [decide_eq_false (by simp), Bool.false_or]
    go_enter Tryd.func102, Tryd.ntmps102
    go_wp2_with (first | (go_at_call 104; (with_reducible refine HA.out.mono ?_); rintro _ _ ⟨rfl, rfl⟩) | fail)
    go_ret
    exact ⟨rfl, rfl⟩
  · rw [decide_eq_true he, Bool.true_or]
    have hne : ((n : Int) != (f : Int)) = true := by simp; omega
    have hnd : decide ((n : Int) = (f : Int)) = false := by simp; omega
    have hnd2 : decide (n = f) = false := by simp; omega
    clear HA
    go_enter Tryd.func102, Tryd.ntmps102
    go_wp2
    go_ret
    exact ⟨rfl, rfl⟩

set_option maxHeartbeats 1000000 in
set_option maxRecDepth 100000 in
theorem br_idx (a : Option Addr) (cap n : Nat) (l : List IRow) (bm br f : Nat) (m : Int) (w : World) (hn : l.length = n) (h63 : n ≤ 9223372036854775807) (hr : Rd w a (l.map IRow.v)) (hcl : ∀ x ∈ l, Calls Tryd.prog 102 #[IRow.v x, .pointer (some ⟨bm, 0, none⟩), .pointer (some ⟨br, 0, none⟩)] w fun e w' => e = .returned (.bool (badRow f m x)) ∧ w = w') :
    Calls Tryd.prog 121 #[.slice a n cap, .func (.func 102) #[] #[.pointer (some ⟨bm, 0, none⟩), .pointer (some ⟨br, 0, none⟩)]] w fun e w' => (∃ r : Int, e = .returned (.int .i64 r) ∧ decide (0 ≤ r) = l.any (badRow f m)) ∧ w = w' := by
  have HC := Lib.hid hcl
  clear hcl
  go_enter Tryd.func121, Tryd.ntmps121
  go_wp2
  go_loopw [5, 8] (fun _ i W => ∃ k : Nat, k ≤ n ∧ i = .int .i64 k ∧ (∀ x ∈ l.take k, (badRow f m) x = false) ∧ w = W) (fun _ i _ => n - (intOf i).toNat)
  case atStart => exact ⟨0, Nat.zero_le _, rfl, by simp, rfl⟩
  case round =>
    obtain ⟨k, hk, rfl, hno, rfl⟩ := hrel
    by_cases hlt : k < n
    · have hkl : k < l.length := by omega
      obtain ⟨g, off, ha, hc⟩ := hr.map_at k hkl
      subst ha
      have hnx : (badRow f m) l[k] = false → ∀ x ∈ l.take (k + 1), (badRow f m) x = false := fun h x hx => by
        rw [← List.take_append_getElem hkl] at hx
        rcases List.mem_append.1 hx with h1 | h1
        · exact hno x h1
        · simp only [List.mem_singleton] at h1; subst h1; exact h
      have hyes : (badRow f m) l[k] = true → l.any (badRow f m) = true := fun h => List.any_eq_true.2 ⟨l[k], List.getElem_mem hkl, h⟩
      have Hnx := Lib.hid hnx
      have Hyes := Lib.hid hyes
      have HCk := Lib.hid (HC.out l[k] (List.getElem_mem hkl))
      clear hnx hyes hno
      generalize l[k] = x at *
      generalize hfx : IRow.v x = fx at *
      clear hfx
      cases hv : (badRow f m) x with
      | true =>
        rw [hv] at HCk
        have Hv := Lib.hid hv
        clear hv
        go_wp2_with fail
        refine HCk.out.mono ?_
        rintro e w5 ⟨rfl, rfl⟩
        go_wp2
        go_ret
        exact ⟨⟨_, rfl, by rw [Hyes.out Hv.out]; simp⟩, rfl⟩
      | false =>
        rw [hv] at HCk
        have Hv := Lib.hid hv
        clear hv
        go_wp2_with fail
        refine HCk.out.mono ?_
        rintro e w5 ⟨rfl, rfl⟩
        go_wp2
        go_roundw
        case rel => exact ⟨k + 1, by omega, by go_num, Hnx.out Hv.out, by first | trivial | rfl⟩
        case measure => simp [intOf]; omega
    · have hkn : k = n := by omega
      have ha : l.any (badRow f m) = false := by
        rw [List.take_of_length_le (by omega)] at hno
        exact List.any_eq_false.2 (fun x hx => by rw [hno x hx]; simp)
      subst hkn
      have Ha := Lib.hid ha
      clear ha hno
      go_wp2
      go_ret
      exact ⟨⟨_, rfl, by rw [Ha.out]; decide⟩, rfl⟩
set_option maxRecDepth 100000 in
theorem br_any (a : Option Addr) (cap n : Nat) (l : List IRow) (bm br f : Nat) (m : Int) (w : World) (hn : l.length = n) (h63 : n ≤ 9223372036854775807) (hr : Rd w a (l.map IRow.v)) (hcl : ∀ x ∈ l, Calls Tryd.prog 102 #[IRow.v x, .pointer (some ⟨bm, 0, none⟩), .pointer (some ⟨br, 0, none⟩)] w fun e w' => e = .returned (.bool (badRow f m x)) ∧ w = w') :
    Calls Tryd.prog 101 #[.slice a n cap, .func (.func 102) #[] #[.pointer (some ⟨bm, 0, none⟩), .pointer (some ⟨br, 0, none⟩)]] w fun e w' => e = .returned (.bool (l.any (badRow f m))) ∧ w = w' := by
  have hi := br_idx a cap n l bm br f m w hn h63 hr hcl
  have HI := Lib.hid hi
  clear hi hr hcl
  go_enter Tryd.func101, Tryd.ntmps101
  go_wp2_with fail
  refine HI.out.mono ?_
  rintro e w1 ⟨⟨r, rfl, h⟩, rfl⟩
  go_wp2
  go_ret
  exact ⟨rfl, rfl⟩

theorem layable_any (L : List IRow) (rows : List (List Int)) (h : L.map (·.l) = rows) (f : Nat) (m : Int) : (rows.all fun r => decide (r.length = f) && r.all fun n => !outb n m) = !(L.any (badRow f m)) := by
  subst h
  rw [List.all_map, List.not_any_eq_all_not]
  congr 1
  funext x
  simp only [Function.comp, badRow, sgP, Bool.not_or, List.not_any_eq_all_not]
  simp
set_option maxRecDepth 100000 in
set_option maxHeartbeats 1000000 in
theorem layable_c (ra : Option Addr) (rn rc : Nat) (L : List IRow) (rows : List (List Int)) (hL : L.map (·.l) = rows) (hn : L.length = rn) (h63 : rn ≤ 9223372036854775807) (w : World) (hr : Rd w ra (L.map IRow.v)) (hok : ∀ r ∈ L, r.ok w) :
    Calls Tryd.prog 72 #[.slice ra rn rc] w fun e w' => e = .returned (.bool (layable rows)) ∧ Below w.heap.size w w' := by
  have hrn : rows.length = rn := by rw [← hL, List.length_map]; exact hn
  obtain ⟨W2, hW2⟩ : ∃ W2, (w.alloc (.cells #[.slice ra rn rc] 67 (0, 0))).alloc (.cells #[.int .i64 (rn : Int)] 3 (0, 0)) = W2 := ⟨_, rfl⟩
  have b2 : Below w.heap.size w W2 := by rw [← hW2]; exact ((Below.refl _ _).alloc (Nat.le_refl _) _).alloc (by simp) _
  have z1 : W2.cell? ⟨w.heap.size, 0, none⟩ = some (.slice ra rn rc) := by rw [← hW2]; exact cell_block (block_alloc (heap_alloc_new w _)) 0
  have z2 : W2.cell? ⟨w.heap.size + 1, 0, none⟩ = some (.int .i64 (rn : Int)) := by
    rw [← hW2]
    have h := heap_alloc_new (w.alloc (.cells #[.slice ra rn rc] 67 (0, 0))) (.cells #[.int .i64 (rn : Int)] 3 (0, 0))
    rw [World.size_alloc] at h
    exact cell_block h 0
  have HW2 := Lib.hid hW2
  have HB2 := Lib.hid b2
  have hr2 := hr.keep b2
  have hok2 : ∀ r ∈ L, r.ok W2 := fun r h => (hok r h).keep b2
  clear hW2 b2 hr hok
  by_cases c1 : rn < 1
  · have hf : layable rows = false := by unfold layable; rw [hrn, decide_eq_false (by omega)]; rfl
    rw [hf]
    have i1 : (rn : Int) < 1 := by omega
    clear hf hL hn hr2 hok2 hrn
    go_enter Tryd.func72, Tryd.ntmps72
    go_upto_region 2 with (fail)
    rw [HW2.out]
    go_wp2
    go_ret
    exact ⟨rfl, HB2.out⟩
  have i1 : ¬ (rn : Int) < 1 := by omega
  by_cases c2 : 200 < rn
  · have hf : layable rows = false := by unfold layable; rw [hrn, decide_eq_false (by omega : ¬ rn ≤ 200)]; simp
    rw [hf]
    have i2 : (200 : Int) < (rn : Int) := by omega
    clear hf hL hn hr2 hok2 hrn
    go_enter Tryd.func72, Tryd.ntmps72
    go_upto_region 2 with (fail)
    rw [HW2.out]
    go_wp2
    go_ret
    exact ⟨rfl, HB2.out⟩
  have i2 : ¬ (200 : Int) < (rn : Int) := by omega
  obtain ⟨b, o, ha, hc⟩ := hr2.map_at 0 (by omega)
  have hr0 : rows.getD 0 [] = L[0].l := by
    subst hL
    rw [List.getD_eq_getElem?_getD, List.getElem?_map, List.getElem?_eq_getElem (by omega)]
    rfl
  have hbr : ∀ x ∈ L, ∀ f c0 a0, W2.cell? ⟨b, o, none⟩ = some (.slice a0 f c0) → Calls Tryd.prog 102 #[IRow.v x, .pointer (some ⟨w.heap.size + 1, 0, none⟩), .pointer (some ⟨w.heap.size, 0, none⟩)] W2 fun e w' => e = .returned (.bool (badRow f rn x)) ∧ W2 = w' := fun x hx f c0 a0 h3 =>
    badrow_c x _ _ f rn rn rc c0 a0 b o (by omega) W2 z2 (by rw [z1, ha]) h3 (hok2 x hx)
  have hlay : layable rows = (decide (1 ≤ L[0].l.length) && (decide (L[0].l.length ≤ 256) && !(L.any (badRow L[0].l.length rn)))) := by
    unfold layable
    rw [hrn, hr0, decide_eq_true (by omega : 1 ≤ rn), decide_eq_true (by omega : rn ≤ 200), layable_any L rows hL]
    rfl
  rw [Nat.add_zero] at hc
  generalize L[0] = x0 at *
  obtain ⟨a0, cp0, l0⟩ := x0
  unfold IRow.v at hc
  simp only at hc hlay
  obtain ⟨f, hf⟩ : ∃ f, l0.length = f := ⟨_, rfl⟩
  rw [hf] at hc hlay
  have hany := br_any ra rc rn L (w.heap.size + 1) w.heap.size f rn W2 hn h63 hr2 (fun x hx => hbr x hx f cp0 a0 hc)
  rw [hlay]
  rw [ha] at z1 HW2 hany ⊢
  generalize L.any (badRow f (rn : Int)) = Z at *
  have HA := Lib.hid hany
  have i0 : (0 : Int) < (rn : Int) := by omega
  clear hlay hany hbr hr0 hr2 hok2 hL hn hrn hf ha
  by_cases c3 : f < 1
  · rw [decide_eq_false (by omega : ¬ 1 ≤ f)]
    have i3 : (f : Int) < 1 := by omega
    go_enter Tryd.func72, Tryd.ntmps72
    go_upto_region 2 with (fail)
    rw [HW2.out]
    go_wp2
    go_ret
    exact ⟨rfl, HB2.out⟩
  rw [decide_eq_true (by omega : 1 ≤ f)]
  have i3 : ¬ (f : Int) < 1 := by omega
  by_cases c4 : 256 < f
  · rw [decide_eq_false (by omega : ¬ f ≤ 256)]
    have i4 : (256 : Int) < (f : Int) := by omega
    go_enter Tryd.func72, Tryd.ntmps72
    go_upto_region 2 with (fail)
    rw [HW2.out]
    go_wp2
    go_ret
    exact ⟨rfl, HB2.out⟩
  rw [decide_eq_true (by omega : f ≤ 256)]
  have i4 : ¬ (256 : Int) < (f : Int) := by omega
  go_enter Tryd.func72, Tryd.ntmps72
  go_upto_region 2 with (fail)
  rw [HW2.out]
  go_wp2_with (first | (go_at_call 101; (with_reducible refine HA.out.mono ?_); rintro _ _ ⟨rfl, rfl⟩) | fail)
  go_ret
  exact ⟨rfl, HB2.out⟩
end Cb
end Go.Proofs.YteekonojmpihlaaDoor
