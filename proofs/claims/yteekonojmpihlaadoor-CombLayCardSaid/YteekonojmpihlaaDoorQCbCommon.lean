/- Package comb: common. -/
import Derived.Test.YteekonojmpihlaaDoorQCbLayP
import Derived.Test.YteekonojmpihlaaDoorQCbAt
import Derived.WalkArith
import Derived.Maps.OwnOps
import Derived.Maps.OwnSet
import Derived.Maps.Views
import Derived.Maps.RangeWalk
import Derived.Lib.SlKeysI
namespace Go.Proofs.YteekonojmpihlaaDoor
namespace Kt
end Kt
open Go Go.RowKit Go.Maps Kt
namespace Cb
/-- A map that counts the numbers of l. -/
structure CntD (D : DataW Unit) (l : List Int) : Prop where
  has : ∀ x : Int, Maps.has D (.int .i64 x) = decide (x ∈ l)
  cnt : ∀ x : Int, D.atKey (.int .i64 x) (.lit (.int .i64 0)) = .lit (.int .i64 (l.count x : Int))
def OwnC (w : World) (b n : Nat) (D : DataW Unit) : Prop := w.ownsMap Tryd.prog 3 (plainElem Tryd.prog 3) b n D
theorem zeroI (w : World) : (zeroValue 3).run Tryd.prog w = .ok (.int .i64 0) w := by kernel_rfl
theorem cnt_get {w : World} {b n : Nat} {D : DataW Unit} {l : List Int} (h : OwnC w b n D) (hD : CntD D l) (x : Int) (hx : (Lit.int .i64 x).wf = true) :
    (Instr.lookup 74 (.map (some b)) (.int .i64 x) false).run Tryd.prog w = .ok (.int .i64 (l.count x : Int)) w := by
  obtain ⟨v, ps, hrun, hv⟩ := World.ownsMap.lookup h (int_keyed Tryd.underlying3) Tryd.underlying74 (zeroI w) (plainElem_int Tryd.underlying3 (by decide)) (keyOf_int_mk Tryd.underlying3 hx)
  rw [hD.cnt x] at hv
  obtain ⟨c, rfl, hc, _⟩ := plainElem_int_inv Tryd.underlying3 hv
  simp at hc
  rw [hrun, ← hc.1]
theorem cnt_inc {w : World} {b n : Nat} {D : DataW Unit} {l : List Int} (h : OwnC w b n D) (hD : CntD D l) (hn : n < maxLen) (hl : l.length < 100000) (x : Int) (hx : (Lit.int .i64 x).wf = true) :
    ∃ w' D', (Instr.mapUpdate 74 (.map (some b)) (.int .i64 x) (.int .i64 ((l.count x : Int) + 1))).run Tryd.prog w = .ok () w' ∧ OwnC w' b (n + 1) D' ∧ CntD D' (l ++ [x]) ∧ w.grownBy w' (some b) := by
  have hle : l.count x ≤ l.length := List.count_le_length
  have hv : (Lit.int .i64 ((l.count x : Int) + 1)).wf = true := WalkArith.wf_i64 (by omega)
  have hm := World.ownsMap.isMap h
  obtain ⟨w', hrun, o, g⟩ := World.ownsMap.update h (int_keyed Tryd.underlying3) Tryd.underlying74 hn (keyOf_int_mk Tryd.underlying3 hx) (plainElem_int Tryd.underlying3 hv)
  refine ⟨w', _, hrun, o, ⟨fun y => ?_, fun y => ?_⟩, g⟩
  · by_cases hyx : y = x
    · subst hyx
      rw [has_put_same hm (by trivial)]
      simp
    · have hne : (Lit.int .i64 y) ≠ Lit.int .i64 x := by simpa using hyx
      rw [has_put_other hne, hD.has y]
      simp [hyx]
  · by_cases hyx : y = x
    · subst hyx
      rw [atKey_put_same hm (by trivial), List.count_append]
      simp
    · have hne : (Lit.int .i64 y) ≠ Lit.int .i64 x := by simpa using hyx
      rw [atKey_put_other hne, hD.cnt y, List.count_append]
      have : [x].count y = 0 := by rw [List.count_eq_zero]; simp [hyx]
      rw [this]
      simp
/-- The range over the counts: what is left; what was best. -/
structure Rng (w : World) (b r n : Nat) (D : DataW Unit) (row : List Int) (cnt : Nat) (best : Int) (W : World) : Prop where
  ex : ∃ left : Lit → Bool, W.ranges Tryd.prog 3 (plainElem Tryd.prog 3) b r n D left cnt ∧ (∀ x : Int, left (.int .i64 x) = true → x ∈ row) ∧ ∀ x ∈ row, left (.int .i64 x) = true ∨ better row x best = false
  mem : best ∈ row
  below : Below w.heap.size w W
/-- One more is seen. -/
theorem left_step {left : Lit → Bool} {row : List Int} {x best b' : Int} (h : ∀ y ∈ row, left (.int .i64 y) = true ∨ better row y best = false) (hb : b' = if better row x best then x else best) :
    ∀ y ∈ row, (left (.int .i64 y) && !(Lit.int .i64 y).sameKey (.int .i64 x)) = true ∨ better row y b' = false := by
  intro y hy
  by_cases hyx : y = x
  · subst hyx
    refine Or.inr ?_
    rw [hb]
    split
    · exact better_irrefl row y
    · rename_i hn
      exact Bool.eq_false_iff.2 hn
  · have hne : (Lit.int .i64 y) ≠ Lit.int .i64 x := by simpa using hyx
    rw [sameKey_ne hne]
    rcases h y hy with h1 | h1
    · exact Or.inl (by rw [h1]; rfl)
    · refine Or.inr ?_
      rw [hb]
      split
      · rename_i hn
        exact better_step h1 hn
      · exact h1
set_option maxRecDepth 100000 in
set_option maxHeartbeats 2000000 in
theorem common_c (row : List Int) (a : Option Addr) (n cap : Nat) (hn : row.length = n) (h0 : 0 < n) (hl : n ≤ 1000) (hw : ∀ x ∈ row, (Lit.int .i64 x).wf = true) (w : World) (hr : Rd w a (i64s row)) :
    Calls Tryd.prog 73 #[.slice a n cap] w fun e w' => e = .returned (.int .i64 (cmn row)) ∧ Below w.heap.size w w' := by
  have hB1 : Below w.heap.size w (w.alloc (.map #[] 0)) := (Below.refl _ _).alloc (Nat.le_refl _) _
  have hO1 : OwnC (w.alloc (.map #[] 0)) w.heap.size 0 (.map []) := World.ownsMap_made w Tryd.prog 3 _
  have hD1 : CntD (.map []) [] := ⟨fun _ => rfl, fun _ => rfl⟩
  have HR := Lib.hid hr
  have HN := Lib.hid hn
  have HW := Lib.hid hw
  obtain ⟨W1, hW1⟩ : ∃ W1, w.alloc (.map #[] 0) = W1 := ⟨_, rfl⟩
  rw [hW1] at hB1 hO1
  have HW1 := Lib.hid hW1
  have HB1 := Lib.hid hB1
  have HO1 := Lib.hid hO1
  have HD1 := Lib.hid hD1
  have hmm := @run_makeMap Tryd.prog
  clear hr hn hw hW1 hB1 hO1 hD1
  go_enter Tryd.func73, Tryd.ntmps73
  go_upto_region 2 with (fail)
  rw [HW1.out]
  go_wp2
  go_loopw [5, 12] (fun _ i W => ∃ k : Nat, k ≤ n ∧ i = .int .i64 k ∧ Below w.heap.size w W ∧ ∃ D, OwnC W w.heap.size k D ∧ CntD D (row.take k)) (fun _ i _ => n - (intOf i).toNat)
  case atStart => exact ⟨0, Nat.zero_le _, rfl, HB1.out, _, HO1.out, by rw [List.take_zero]; exact HD1.out⟩
  case round =>
    obtain ⟨k, hk, rfl, hB, D, hO, hD⟩ := hrel
    by_cases hlt : k < n
    · obtain ⟨b, o, ha, hc⟩ := rd_i64 (HR.out.keep hB) k (by rw [HN.out]; exact hlt)
      have hkl : k < row.length := by rw [HN.out]; exact hlt
      have hgd : row.getD k 0 = row[k] := by rw [List.getD_eq_getElem?_getD, List.getElem?_eq_getElem hkl]; rfl
      have hxw := HW.out _ (List.getElem_mem hkl)
      have htk : row.take (k + 1) = row.take k ++ [row[k]] := (List.take_append_getElem hkl).symm
      rw [hgd] at hc
      generalize row[k] = x at *
      have hg := cnt_get hO hD x hxw
      obtain ⟨w', D', hrun, hO', hD', hgr⟩ := cnt_inc hO hD (by unfold maxLen; omega) (by rw [List.length_take]; omega) x hxw
      have hle : (row.take k).count x ≤ k := Nat.le_trans List.count_le_length (by rw [List.length_take]; omega)
      rw [← htk] at hD'
      generalize hC : (row.take k).count x = C at *
      have hwr : IntKind.i64.wrap ((C : Int) + 1) = (C : Int) + 1 := by rw [IntKind.wrap_i64]; omega
      have hB' := hB.grown hgr (by have := hB.size; exact this) (fun j hj => by cases hj; exact Nat.le_refl _)
      have HO' := Lib.hid hO'
      have HD' := Lib.hid hD'
      have HB' := Lib.hid hB'
      subst ha
      have hlti : (k : Int) < (n : Int) := by omega
      clear hO hD hO' hD' hgr hB' hgd hkl htk hxw hC hle hB
      go_wp2
      go_roundw
      case rel => exact ⟨k + 1, hlt, by go_num, HB'.out, D', HO'.out, HD'.out⟩
      case measure => simp [intOf]; omega
    · obtain rfl : k = n := by omega
      rw [List.take_of_length_le (by rw [HN.out]; exact Nat.le_refl _)] at hD
      obtain ⟨b, o, ha, hc⟩ := rd_i64 (HR.out.keep hB) 0 (by rw [HN.out]; exact h0)
      rw [Nat.add_zero] at hc
      have hmem : row.getD 0 0 ∈ row := by
        rw [List.getD_eq_getElem?_getD, List.getElem?_eq_getElem (by rw [HN.out]; exact h0)]
        exact List.getElem_mem _
      generalize row.getD 0 0 = x0 at *
      obtain ⟨wo, hwo⟩ : ∃ wo, wo = wr := ⟨_, rfl⟩
      subst hwo
      have HO := Lib.hid hO
      have HD := Lib.hid hD
      have HB := Lib.hid hB
      subst ha
      have h0i : (0 : Int) < (k : Int) := by omega
      clear hO hD hB hlt
      go_wp2_with (first
        | (at_range; refine wpList_range_own _ rfl _ 74 rfl 3 3 (int_keyed Tryd.underlying3) Tryd.underlying74 _ w.heap.size k _ rfl HO.out ?_; intro w0 hrg0 hg0 hs0)
        | go_in)
      go_frame
      have HRg0 := Lib.hid (show Rng w w.heap.size wo.heap.size k D row (Maps.size D) x0 w0 from ⟨⟨_, hrg0, fun x hx => by
        rw [HD.out.has x] at hx
        simpa using hx, fun x hx => Or.inl (by
        rw [HD.out.has x]
        simpa using hx)⟩, hmem, HB.out.grown hg0 HB.out.size (fun j hj => by cases hj)⟩)
      clear hrg0 hg0 hs0 hc hmem
      go_loopw [6, 7, 8] (fun b6 _ _ W => ∃ (best : Int) (cnt : Nat), b6 = .int .i64 best ∧ Rng w w.heap.size wo.heap.size k D row cnt best W) (fun _ _ _ W => W.rangeLeft w.heap.size wo.heap.size)
      case atStart => exact ⟨x0, _, rfl, HRg0.out⟩
      case round =>
        clear HRg0
        obtain ⟨best, cnt, rfl, hR⟩ := hrel
        obtain ⟨⟨left, hrg, hin, hl1⟩, hmem, hbl⟩ := hR
        have HIn := Lib.hid hin
        have HL1 := Lib.hid hl1
        have HM := Lib.hid hmem
        have HBl := Lib.hid hbl
        have HRG := Lib.hid hrg
        clear hin hl1 hmem hbl
        go_wp2_with (first
          | (at_next; refine wpList_next_ranges_ii _ rfl _ rfl 3 3 .i64 .i64 (int_keyed Tryd.underlying3) Tryd.underlying3 Tryd.underlying3 w.heap.size wo.heap.size k _ _ _ rfl hrg ?_ ?_)
          | go_in)
        · intro hc0 hl0
          have hbest : best = cmn row := IsCmn.eq ⟨HM.out, fun x hx => by
            rcases HL1.out x hx with h1 | h1
            · rw [hl0] at h1
              cases h1
            · exact h1⟩
          have HE := Lib.hid hbest
          clear hrg hbest hl0
          go_wp2
          go_ret
          exact ⟨by rw [HE.out]; rfl, HBl.out⟩
        · intro x c w1 cnt1 hwx hwc hlx hat hrg1 hlt1 hg1 hs1 hen
          have hxr := HIn.out x hlx
          have hcx : c = (row.count x : Int) := by
            have h1 := hat (.lit (.int .i64 0))
            rw [HD.out.cnt x] at h1
            simp at h1
            exact h1.symm
          have hget := cnt_get (World.ranges.owns hrg1) HD.out best (HW.out best HM.out)
          have hb1 := HBl.out.grown hg1 HBl.out.size (fun j hj => by cases hj; have := HB.out.size; omega)
          obtain ⟨b', hb'⟩ : ∃ b', b' = if better row x best then x else best := ⟨_, rfl⟩
          have hR1 : Rng w w.heap.size wo.heap.size k D row cnt1 b' w1 := ⟨⟨_, hrg1, fun y hy => by
            rw [Bool.and_eq_true] at hy
            exact HIn.out y hy.1, left_step HL1.out hb'⟩, (by rw [hb']; split <;> first | exact hxr | exact HM.out), hb1⟩
          have HR1 := Lib.hid hR1
          have hbt : better row x best = (decide ((row.count best : Int) < (row.count x : Int)) || (decide ((row.count x : Int) = (row.count best : Int)) && decide (x < best))) := by
            unfold better
            rw [show decide (row.count best < row.count x) = decide ((row.count best : Int) < (row.count x : Int)) from decide_eq_decide.2 (by omega), show decide (row.count x = row.count best) = decide ((row.count x : Int) = (row.count best : Int)) from decide_eq_decide.2 (by omega)]
          have hm1 := hrg1.left_eq
          have hm0 := HRG.out.left_eq
          subst hcx
          obtain ⟨CX, hCX⟩ : ∃ CX : Int, (row.count x : Int) = CX := ⟨_, rfl⟩
          obtain ⟨CB, hCB⟩ : ∃ CB : Int, (row.count best : Int) = CB := ⟨_, rfl⟩
          rw [hCX, hCB] at hbt
          rw [hCB] at hget
          rw [hCX] at hen ⊢
          have HM1 := Lib.hid hm1
          have HM0 := Lib.hid hm0
          clear hCX hCB hat hrg1 hg1 hb1 hR1 hxr hlx hrg hs1 hwc hm1 hm0
          by_cases c1 : CB < CX
          · have e1 : better row x best = true := by rw [hbt, decide_eq_true c1]; rfl
            rw [e1, if_pos rfl] at hb'
            subst hb'
            have d1 : decide (CB < CX) = true := decide_eq_true c1
            clear hbt e1
            go_wp2
            go_roundw
            case rel => exact ⟨_, cnt1, rfl, HR1.out⟩
            case measure => rw [HM1.out, HM0.out]; exact hlt1
          · by_cases c2 : CX = CB
            · by_cases c3 : x < best
              · have e1 : better row x best = true := by rw [hbt, decide_eq_true c2, decide_eq_true c3]; simp
                rw [e1, if_pos rfl] at hb'
                subst hb' c2
                have d1 : decide (CX < CX) = false := decide_eq_false c1
                clear hbt e1
                go_wp2
                go_roundw
                case rel => exact ⟨_, cnt1, rfl, HR1.out⟩
                case measure => rw [HM1.out, HM0.out]; exact hlt1
              · have e1 : better row x best = false := by rw [hbt, decide_eq_false c1, decide_eq_false c3]; simp
                rw [e1, if_neg Bool.false_ne_true] at hb'
                subst hb' c2
                have d1 : decide (CX < CX) = false := decide_eq_false c1
                clear hbt e1
                go_wp2
                go_roundw
                case rel => exact ⟨_, cnt1, rfl, HR1.out⟩
                case measure => rw [HM1.out, HM0.out]; exact hlt1
            · have e1 : better row x best = false := by rw [hbt, decide_eq_false c1, decide_eq_false c2]; simp
              rw [e1, if_neg Bool.false_ne_true] at hb'
              subst hb'
              have d1 : decide (CB < CX) = false := decide_eq_false c1
              have d2 : decide (CX = CB) = false := decide_eq_false c2
              have d3 : (CX == CB) = false := by simpa using c2
              clear hbt e1
              go_wp2
              go_roundw
              case rel => exact ⟨_, cnt1, rfl, HR1.out⟩
              case measure => rw [HM1.out, HM0.out]; exact hlt1
end Cb
end Go.Proofs.YteekonojmpihlaaDoor
