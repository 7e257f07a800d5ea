/- classes.Of and classes.Matrix at a DFA that is not right; the classes of a right one are numbered as told; spread, a matrix is the rows. -/
import Derived.Test.YtfkjijjmphbglaaDoorClsKl
import Derived.Test.YtfkjijjmphbglaaDoorCmat
import Derived.Test.YtfkjijjmphbglaaDoorRgt17
import Derived.Test.YtfkjijjmphbglaaDoorClsMap
namespace Go.Proofs.YtfkjijjmphbglaaDoor
open Go Go.RowKit Kt
namespace Cl
open Sb
/-- The classes below c, as Right reads them. -/
theorem rgt_st {κ : Type} [DecidableEq κ] (key : Nat → κ) : ∀ c n, rgt (Mk.ints (st key c).1 ++ n) 0 = rgt n (st key c).2.length := by
  intro c
  induction c with
  | zero => intro n; rfl
  | succ c ih =>
    intro n
    have ok := ok_st key c
    cases hk : known key c (key c) with
    | some j =>
      rw [known_some hk]
      simp only
      have hj : j < (st key c).2.length := (List.findIdx?_eq_some_iff_getElem.1 hk).1
      have e : Mk.ints ((st key c).1 ++ [j]) ++ n = Mk.ints (st key c).1 ++ ((j : Int) :: n) := by simp [Mk.ints]
      rw [e, ih, rgt, if_neg (by omega), if_neg (by omega)]
    | none =>
      rw [known_none hk]
      simp only
      have e : Mk.ints ((st key c).1 ++ [(st key c).2.length]) ++ n = Mk.ints (st key c).1 ++ (((st key c).2.length : Int) :: n) := by simp [Mk.ints]
      rw [e, ih, rgt, if_neg (by omega), if_pos rfl, List.length_append]
      rfl
theorem okm_cl (rows : List (List Int)) (N : Nat) (hN : (fsts rows 256).length = N) : okm (Mk.ints (cl rows 256)) (N : Int) = true := by
  have h : rgt (Mk.ints (cl rows 256)) 0 = some N := by
    have := rgt_st (colb rows) 256 []
    rw [List.append_nil] at this
    have e1 : (st (colb rows) 256).1 = cl rows 256 := rfl
    have e2 : (st (colb rows) 256).2 = fsts rows 256 := rfl
    rw [e1, e2, hN] at this
    rw [this]
    rfl
  unfold okm
  rw [h]
  simp
/-- Spread, a row of the matrix is the row. -/
theorem sprd_mrow {rows : List (List Int)} (h : rows.length ≤ 200) (h1 : ∀ r ∈ rows, r.length = 256) (h2 : ∀ r ∈ rows, r.any (oth rows.length) = false) {r : List Int} (hr : r ∈ rows) : sprd (Mk.ints (cl rows 256)) (mrow (fsts rows 256) r) = r := by
  have hl : (Mk.ints (cl rows 256)).length = 256 := by simp [Mk.ints, cl_len]
  have h256 := h1 r hr
  apply List.ext_getElem?
  intro c
  by_cases hc : c < 256
  · have ok := ok_st (colb rows) 256
    obtain ⟨j, f, e1, e2, e3, e4⟩ := ok.lt c hc
    rw [klass_get rows hc] at e1
    simp only [Option.some.injEq] at e1
    rw [← e1] at e2
    have hsame : r.getD f 0 = r.getD c 0 := (colb_iff h (by omega) hc rows h1 h2).1 e3 r hr
    have hkm : (Mk.ints (cl rows 256))[c]? = some ((klass rows c : Nat) : Int) := by
      have := mapL_at rows hc
      unfold mapL at this
      rwa [List.getElem?_append_left (by omega)] at this
    have e5 : (fsts rows 256)[klass rows c]? = some f := e2
    have hm : (mrow (fsts rows 256) r).getD (klass rows c) 0 = r.getD c 0 := by
      unfold mrow
      rw [List.getD_eq_getElem?_getD, List.getElem?_map, e5, ← hsame]
      rfl
    unfold sprd
    rw [List.getElem?_map, hkm]
    simp only [Option.map_some, Int.toNat_natCast]
    rw [hm, List.getD_eq_getElem?_getD, List.getElem?_eq_getElem (by omega)]
    rfl
  · rw [List.getElem?_eq_none (by rw [sprd_len]; omega), List.getElem?_eq_none (by omega)]
theorem eq_arr28 {xs ys : List Int} (hx : xs.length = 256) (hy : ys.length = 256) (w : World) : (Op.equalIn 10000 28 (.agg (i64s xs).toArray) (.agg (i64s ys).toArray)).run Tryd.prog w = .ok (decide (xs = ys)) w := by
  obtain ⟨i, hi⟩ : ∃ i, Tryd.prog.info? 3 = some i := Option.isSome_iff_exists.1 (by kernel_rfl)
  have hce : Tryd.prog.cellsOf 3 = 1 := by kernel_rfl
  rw [show (10000 : Nat) = 9999 + 1 from rfl, run_equalIn_array (P := Tryd.prog) w 9999 _ _ Tryd.underlying28 hi, hce,
    show (9999 : Nat) = 9998 + 1 from rfl, eq_items 9998 xs ys w _ (fun i hi => by simp at hi; omega), ← hx, all_eq (by rw [hx, hy])]
set_option maxHeartbeats 4000000 in
set_option maxRecDepth 100000 in
theorem cof_no (ra ua ea : Option Addr) (rn rc un uc en ec : Nat) (rows : List (List Int)) (rule entry : List Int) (hrn : rows.length = rn) (hun : rule.length = un) (hen : entry.length = en) (h1 : rn ≤ 9223372036854775807) (h2 : un ≤ 9223372036854775807) (h3 : en ≤ 9223372036854775807) (hG : ¬ Sb.Good rows rule entry) (w : World) (h : Df w ra ua ea rows rule entry) (X : Value) (hX : w.cell? ⟨0, 0, none⟩ = some X) :
    Calls Tryd.prog 17 #[.agg #[.slice ra rn rc, .slice ua un uc, .slice ea en ec]] w fun e w' => e = .returned (.tuple #[.agg Tryd.zeroCells30, X]) ∧ Below w.heap.size w w' := by
  have hR0 := heap_alloc2_new w (.cells #[.slice ra rn rc, .slice ua un uc, .slice ea en ec] 25) (.cells Tryd.zeroCells30 30)
  have hD0 := heap_alloc2_old w (.cells #[.slice ra rn rc, .slice ua un uc, .slice ea en ec] 25) (.cells Tryd.zeroCells30 30)
  have hB0 := ((Below.refl w.heap.size w).alloc (Nat.le_refl _) (.cells #[.slice ra rn rc, .slice ua un uc, .slice ea en ec] 25)).alloc (by simp) (.cells Tryd.zeroCells30 30)
  have hrg := right_c ra ua ea rn rc un uc en ec rows rule entry hrn hun hen h1 h2 h3 _ (h.below hB0)
  have hsk : ∀ W, Below w.heap.size w W → W.cell? ⟨0, 0, none⟩ = some X := fun W hb => (hb.cell (p := ⟨0, 0, none⟩) (lt_of_cell hX)).trans hX
  have HR := Lib.hid hrg
  have HG := Lib.hid hG
  have SK := Lib.hid hsk
  have HR0 := Lib.hid hR0
  have HB0 := Lib.hid hB0
  clear h hrn hG hrg hD0 hR0 hB0 hun hen hX hsk
  go_enter Tryd.func17, Tryd.ntmps17
  go_wp2_with fail
  refine HR.out.mono ?_
  rintro e w2 ⟨⟨v, rfl, hv⟩, hb2⟩
  have hvf : v = false := by
    cases v with
    | false => rfl
    | true => exact absurd (hv.1 rfl) HG.out
  subst hvf
  have hB2 := HB0.out.trans (hb2.mono HB0.out.size)
  have hg := SK.out _ hB2
  have hR2 := (hb2.block _ (block_lt HR0.out)).trans HR0.out
  have hRd : w2.drew.heap[w.heap.size + 1]? = some (.cells Tryd.zeroCells30 30 (0, 0)) := hR2
  have hst := store_map (L := List.replicate 257 0) hRd (by rw [zc30]; simp [i64s_length]) (by simp)
  have ezl : Tryd.zeroCells30.toList = i64s (List.replicate 257 0) := by rw [zc30]
  rw [← ezl] at hst
  have eza : Tryd.zeroCells30.toList.toArray = Tryd.zeroCells30 := Array.toArray_toList
  rw [eza] at hst
  have hzs : Tryd.zeroCells30.size = 257 := by rw [zc30]; simp [i64s_length]
  have hrow := setRow_heap w2.drew _ _ Tryd.zeroCells30 _ _ hRd
  have hB3 := below_setRow (hB2.drew) (Nat.le_succ _) Tryd.zeroCells30
  have hg3 := SK.out _ hB3
  have hg2 := SK.out _ hB2.drew
  have hlv := run_loadVar_row (P := Tryd.prog) _ _ _ 30 _ _ _ hrow Tryd.underlying30 rfl (by rw [info30, hzs])
  have HLv := Lib.hid hlv
  have HB3 := Lib.hid hB3
  have Hg2 := Lib.hid hg2
  have Hg3 := Lib.hid hg3
  clear hv hb2 hB2 hg hR2 hRd hrow hlv hB3 hg2 hg3 ezl eza HR HR0 HB0
  go_wp2
  refine wp_region_noPanic ?_
  refine wp_region_held_drew (S := fun W => W.cell? ⟨0, 0, none⟩ = some X) (by kernel_rfl) Hg2.out (fun hHeld => ?_)
  (refine wpAnyH_take (i := 0) (v := ?v0) (by simp only [List.getElem?_toArray, List.getElem?_cons_succ, List.getElem?_cons_zero]; rfl) (by kernel_rfl) (by kernel_rfl) (by kernel_rfl) (fun _ _ _ h => False.elim h) (Or.inl ⟨by rfl, ?hy0⟩) (by assumption) ?rest0; (case hy0 => (intro w hSw; (try dsimp only at hSw); go_simp; (try with_reducible rfl))); (try simp only [Act.put, List.setIfInBounds_toArray, List.set_cons_zero, List.set_cons_succ]))
  (refine wpAnyH_take (i := 1) (v := ?v1) (by simp only [List.getElem?_toArray, List.getElem?_cons_succ, List.getElem?_cons_zero]; rfl) (by kernel_rfl) (by kernel_rfl) (by kernel_rfl) (fun _ _ _ h => False.elim h) (Or.inl ⟨by rfl, ?hy1⟩) (by assumption) ?rest1; (case hy1 => (intro w hSw; (try dsimp only at hSw); go_simp; (try with_reducible rfl))); (try simp only [Act.put, List.setIfInBounds_toArray, List.set_cons_zero, List.set_cons_succ]))
  (refine wpAnyH_ready (rs := [2]) (by kernel_rfl) (by simp) ?_; refine AllReadyH.cons (o := _) (by simp only [List.getElem?_toArray, List.getElem?_cons_succ, List.getElem?_cons_zero]; rfl) (fun K hK => ?_) AllReadyH.nil; go_simp; (skip); refine hK.out _ _ (by exact Hg3.out) (fun hHeld => ?_); clear hK K; (try simp only [Act.put, List.setIfInBounds_toArray, List.set_cons_zero, List.set_cons_succ]))
  (refine wpAnyH_take (i := 3) (v := ?v3) (by simp only [List.getElem?_toArray, List.getElem?_cons_succ, List.getElem?_cons_zero]; rfl) (by kernel_rfl) (by kernel_rfl) (by kernel_rfl) (fun _ _ _ h => False.elim h) (Or.inl ⟨by rfl, ?hy3⟩) (by assumption) ?rest3; (case hy3 => (intro w hSw; (try dsimp only at hSw); go_simp; (try with_reducible rfl))); (try simp only [Act.put, List.setIfInBounds_toArray, List.set_cons_zero, List.set_cons_succ]))
  refine wpAnyH_done (by kernel_rfl) ?_ _
  refine NoPanic.normal ?_
  go_wp2
  (try simp only [Exit.inBlock, Exit.then])
  refine bodyPost_ret (v := .tuple #[.agg Tryd.zeroCells30, X]) ?_ rfl ?_
  · rw [results_cell_tmp (p := 2) (u := 3) (ty := 30) rfl]
    simp [asAddr, HLv.out, Result.andThen]
  · exact ⟨rfl, HB3.out⟩
end Cl
end Go.Proofs.YtfkjijjmphbglaaDoor
