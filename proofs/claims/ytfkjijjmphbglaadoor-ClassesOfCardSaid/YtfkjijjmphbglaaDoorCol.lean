/- classes.column: where all states lead by a byte, as a text. -/
import Derived.Test.YtfkjijjmphbglaaDoorSub
import Derived.Test.YtfkjijjmphbglaaDoorClsPure
import Derived.Deep.RegionHeld3
namespace Go.Proofs.YtfkjijjmphbglaaDoor
open Go Go.RowKit Kt
namespace Cl
open Sb
set_option linter.unusedSimpArgs false
/-- What a row gives to a byte's key. -/
def two (c : Nat) (r : List Int) : List UInt8 := [0, UInt8.ofNat (r.getD c 0).toNat]
/-- A byte's key. -/
def colb (rows : List (List Int)) (c : Nat) : List UInt8 := rows.flatMap (two c)
theorem colb_len (rows : List (List Int)) (c : Nat) : (colb rows c).length = 2 * rows.length := by
  unfold colb
  induction rows with
  | nil => rfl
  | cons r rows ih => rw [List.flatMap_cons, List.length_append, ih, List.length_cons]; simp [two]; omega
theorem str_keep {w : World} {a : Option Addr} {l : List UInt8} {n : Nat} (hn : l.length = n) (hr : Rd w a (u8s l)) (c : Nat) (W : World) (hb : Below w.heap.size w W) :
    (convert 197 9 (.slice a n c)).run Tryd.prog W = .ok (.string (Str l)) W := by
  subst hn
  exact str_run (P := Tryd.prog) (dst := 9) Num.elU8.ht Tryd.underlying5 Tryd.underlying9 (hr.keep hb) c 0
/-- The loop of column. -/
def CoR (w : World) (rows : List (List Int)) (c : Nat) (o i : Value) (W : World) : Prop := ∃ (k : Nat) (a : Option Addr) (cap : Nat), k ≤ rows.length ∧ i = .int .i64 (k : Int) ∧ o = .slice a (2 * k) cap ∧
  W.ownsRow w.heap.size 5 1 (.slice a (2 * k) cap) (2 * k) (u8s (colb (rows.take k) c)) ∧ Below w.heap.size w W
set_option maxHeartbeats 4000000 in
set_option maxRecDepth 100000 in
theorem column_c (ra ua ea : Option Addr) (rn rc un uc en ec : Nat) (rows : List (List Int)) (rule entry : List Int) (hrn : rows.length = rn) (h200 : rn ≤ 200) (hto : ∀ r ∈ rows, r.any (oth rows.length) = false) (c : Nat) (hc : c < 256) (w : World) (h : Df w ra ua ea rows rule entry) :
    Calls Tryd.prog 128 #[.agg #[.slice ra rn rc, .slice ua un uc, .slice ea en ec], .int .i64 (c : Int)] w fun e w' => e = .returned (.string (Str (colb rows c))) ∧ Below w.heap.size w w' := by
  have h0 : w.ownsRow w.heap.size 5 1 (.slice none 0 0) 0 [] := ⟨rfl, .inl ⟨rfl, rfl⟩⟩
  have hB0 := (Below.refl w.heap.size w).alloc (Nat.le_refl _) (.cells #[.slice ra rn rc, .slice ua un uc, .slice ea en ec] 25)
  have h0' := own_keep h0 hB0
  have H := Lib.hid h
  have Hto := Lib.hid hto
  have Hrn := Lib.hid hrn
  have H0 := Lib.hid h0'
  have HB0 := Lib.hid hB0
  clear h hto hrn h0 h0' hB0
  go_enter Tryd.func128, Tryd.ntmps128
  go_wp2
  go_loopw [5, 7, 11] (fun o _ i W => CoR w rows c o i W) (fun _ _ i _ => rn - (intOf i).toNat)
  case atStart => exact ⟨0, none, 0, Nat.zero_le _, rfl, rfl, H0.out, HB0.out⟩
  case round =>
    clear H0 HB0
    obtain ⟨k, a, cap, hk, rfl, rfl, hown, hB⟩ := hrel
    rw [Hrn.out] at hk
    by_cases hlt : k < rn
    · have hkl : k < rows.length := by rw [Hrn.out]; exact hlt
      obtain ⟨b, o, ha, hrg⟩ := row_at H.out.w256 (H.out.below hB).rr k hkl
      subst ha
      have h256 := H.out.w256 _ (List.getElem_mem hkl)
      have hx0 := Hto.out _ (List.getElem_mem hkl)
      have hcb : colb (rows.take (k + 1)) c = colb (rows.take k) c ++ two c rows[k] := by
        unfold colb
        rw [← List.take_append_getElem hkl, List.flatMap_append]
        simp
      generalize rows[k] = row at *
      have hcl : c < row.length := by omega
      have hx1 := List.any_eq_false.1 hx0 _ (List.getElem_mem hcl)
      have hx2 := (oth_nat _ _).1 (by simpa using hx1 : oth rows.length row[c] = false)
      rw [Hrn.out] at hx2
      have hgd : row.getD c 0 = row[c] := by rw [List.getD_eq_getElem?_getD, List.getElem?_eq_getElem hcl]; rfl
      have hci : (i64s row)[c]? = some (.int .i64 row[c]) := by simp [i64s, hcl]
      have htw : two c row = [0, UInt8.ofNat row[c].toNat] := by unfold two; rw [hgd]
      rw [htw] at hcb
      have hl := load_row h256 hrg
      unfold rv at hl
      have hst := store_row wr h256
      have hln : (i64s row).length = 256 := by rw [i64s_length]; exact h256
      have hnew := heap_alloc_new wr (.cells (i64s row).toArray 35)
      have hcell : (wr.alloc (.cells (i64s row).toArray 35)).cell? ⟨wr.heap.size, c, none⟩ = some (.int .i64 row[c]) := by
        rw [cell_block hnew c]
        simpa using hci
      generalize row[c] = x at *
      obtain ⟨xn, rfl⟩ : ∃ xn : Nat, x = (xn : Int) := ⟨x.toNat, by omega⟩
      have hx200 : xn < 200 := by omega
      rw [Int.toNat_natCast] at hcb
      have hb2 := (Below.refl wr.heap.size wr).alloc (Nat.le_refl _) (.cells (i64s row).toArray 35)
      obtain ⟨W2, hW2⟩ : ∃ W2, wr.alloc (.cells (i64s row).toArray 35) = W2 := ⟨_, rfl⟩
      rw [hW2] at hcell hb2
      have hsz := hb2.size
      have hsk : ∀ W, Below W2.heap.size W2 W → W.cell? ⟨wr.heap.size, c, none⟩ = some (.int .i64 (xn : Int)) := fun W hb => (hb.cell (p := ⟨wr.heap.size, c, none⟩) (lt_of_cell hcell)).trans hcell
      have hz0 : Below W2.heap.size W2 W2.drew := (Below.refl _ _).drew
      have b2 := ((Below.refl W2.heap.size W2).alloc (Nat.le_refl _) (.cells #[.int .u8 0, .int .u8 (xn : Int)] 5)).drew
      have hrd0 := Rd.new W2 #[.int .u8 0, .int .u8 (xn : Int)] 5 (0, 0) (u8s [0, UInt8.ofNat xn]) (by
        have : xn % 256 = xn := by omega
        simp [u8s, this])
      have hrd := hrd0.keep (Below.refl _ _).drew
      obtain ⟨v', w3, hrun, own3, gr3, _⟩ := Num.elU8.append w.heap.size (ty := 197) (own_keep hown (hb2.trans (b2.mono hsz))) 2 2 rfl hrd (fun h => by cases h) (oneCell_u8s _) (by unfold maxLen; omega) (by omega) (by have := hB.size; have := b2.size; omega)
      rw [← u8s_append] at own3
      have hB3 : Below w.heap.size w w3 := ((hB.trans (hb2.mono hB.size)).trans (b2.mono (Nat.le_trans hB.size hsz))).trans (below_grown (own_keep hown (hb2.trans (b2.mono hsz))) gr3 (Nat.le_refl _) (by have := hB.size; have := b2.size; omega))
      have hg3 := (below_grown (B := w.heap.size) (own_keep hown (hb2.trans (b2.mono hsz))) gr3 (Nat.le_refl _) (by have := hB.size; have := b2.size; omega))
      have hS3 : w3.cell? ⟨wr.heap.size, c, none⟩ = some (.int .i64 (xn : Int)) := by
        have hlt2 : wr.heap.size < W2.heap.size := by rw [← hW2]; simp
        have hb := gr3.block wr.heap.size (by have := b2.size; omega) (fun e => by have := (hown.lt _ e.symm).2; omega)
        rw [World.cell?_of_block (a := ⟨wr.heap.size, c, none⟩) hb]
        exact hsk _ b2
      obtain ⟨a3, c3, rfl, _, _, _, _⟩ := rd_own own3
      have hk2 : 2 * k + 2 = 2 * (k + 1) := by omega
      rw [hk2, ← hcb] at own3
      rw [hk2] at hrun
      have hx8 : (xn : Int) / 2 ^ 8 = 0 := by omega
      have hx8' : (xn : Int) / 256 = 0 := by omega
      have hw1 : IntKind.u8.wrap (xn : Int) = (xn : Int) := by rw [IntKind.wrap_u8]; omega
      have hw0 : IntKind.u8.wrap 0 = 0 := by decide
      have hcI : (c : Int) < 256 := by omega
      have SK := Lib.hid hsk
      have HW2 := Lib.hid hW2
      have HO3 := Lib.hid own3
      have HB3 := Lib.hid hB3
      have HS3 := Lib.hid hS3
      have HC2 := Lib.hid hcell
      clear hsk hW2 own3 hB3 hS3 hcell gr3 hg3 hrd hrd0 b2 hnew hci htw hgd hx2 hx1 hx0 hcb hrg hown hB hk2 hsz hb2
      go_wp2_with fail
      refine wp_load_run hl rfl rfl ?_
      go_wp2_with fail
      rw [HW2.out]
      refine wp_region_noPanic ?_
      refine wp_region_held_drew (S := fun W => W.cell? ⟨wr.heap.size, c, none⟩ = some (.int .i64 (xn : Int))) (by kernel_rfl) (SK.out _ hz0) (fun hHeld => ?_)
      (refine wpAnyH_take (i := 0) (v := ?v0) (by simp only [List.getElem?_toArray, List.getElem?_cons_succ, List.getElem?_cons_zero]; rfl) (by kernel_rfl) (by kernel_rfl) (by kernel_rfl) (fun _ _ _ h => False.elim h) (Or.inl ⟨by rfl, ?hy0⟩) (by assumption) ?rest0; (case hy0 => (intro w hSw; (try dsimp only at hSw); go_simp; (try with_reducible rfl))); (try simp only [Act.put, List.setIfInBounds_toArray, List.set_cons_zero, List.set_cons_succ]))
      (refine wpAnyH_take (i := 1) (v := ?v1) (by simp only [List.getElem?_toArray, List.getElem?_cons_succ, List.getElem?_cons_zero]; rfl) (by kernel_rfl) (by kernel_rfl) (by kernel_rfl) (fun _ _ _ h => False.elim h) (Or.inl ⟨by rfl, ?hy1⟩) (by assumption) ?rest1; (case hy1 => (intro w hSw; (try dsimp only at hSw); go_simp; (try with_reducible rfl))); (try simp only [Act.put, List.setIfInBounds_toArray, List.set_cons_zero, List.set_cons_succ]))
      (refine wpAnyH_take (i := 2) (v := ?v2) (by simp only [List.getElem?_toArray, List.getElem?_cons_succ, List.getElem?_cons_zero]; rfl) (by kernel_rfl) (by kernel_rfl) (by kernel_rfl) (fun _ _ _ h => False.elim h) (Or.inl ⟨by rfl, ?hy2⟩) (by assumption) ?rest2; (case hy2 => (intro w hSw; (try dsimp only at hSw); go_simp; (try with_reducible rfl))); (try simp only [Act.put, List.setIfInBounds_toArray, List.set_cons_zero, List.set_cons_succ]))
      (refine wpAnyH_take (i := 3) (v := ?v3) (by simp only [List.getElem?_toArray, List.getElem?_cons_succ, List.getElem?_cons_zero]; rfl) (by kernel_rfl) (by kernel_rfl) (by kernel_rfl) (fun _ _ _ h => False.elim h) (Or.inl ⟨by rfl, ?hy3⟩) (by assumption) ?rest3; (case hy3 => (intro w hSw; (try dsimp only at hSw); go_simp; (try with_reducible rfl))); (try simp only [Act.put, List.setIfInBounds_toArray, List.set_cons_zero, List.set_cons_succ]))
      (refine wpAnyH_take (i := 4) (v := ?v4) (by simp only [List.getElem?_toArray, List.getElem?_cons_succ, List.getElem?_cons_zero]; rfl) (by kernel_rfl) (by kernel_rfl) (by kernel_rfl) (fun _ _ _ h => False.elim h) (Or.inl ⟨by rfl, ?hy4⟩) (by assumption) ?rest4; (case hy4 => (intro w hSw; (try dsimp only at hSw); go_simp; (try with_reducible rfl))); (try simp only [Act.put, List.setIfInBounds_toArray, List.set_cons_zero, List.set_cons_succ]))
      (refine wpAnyH_take (i := 5) (v := ?v5) (by simp only [List.getElem?_toArray, List.getElem?_cons_succ, List.getElem?_cons_zero]; rfl) (by kernel_rfl) (by kernel_rfl) (by kernel_rfl) (fun _ _ _ h => False.elim h) (Or.inl ⟨by rfl, ?hy5⟩) (by assumption) ?rest5; (case hy5 => (intro w hSw; (try dsimp only at hSw); go_simp; (try with_reducible rfl))); (try simp only [Act.put, List.setIfInBounds_toArray, List.set_cons_zero, List.set_cons_succ]))
      (refine wpAnyH_take (i := 6) (v := ?v6) (by simp only [List.getElem?_toArray, List.getElem?_cons_succ, List.getElem?_cons_zero]; rfl) (by kernel_rfl) (by kernel_rfl) (by kernel_rfl) (fun _ _ _ h => False.elim h) (Or.inl ⟨by rfl, ?hy6⟩) (by assumption) ?rest6; (case hy6 => (intro w hSw; (try dsimp only at hSw); go_simp; (try with_reducible rfl))); (try simp only [Act.put, List.setIfInBounds_toArray, List.set_cons_zero, List.set_cons_succ]))
      (refine wpAnyH_take (i := 7) (v := ?v7) (by simp only [List.getElem?_toArray, List.getElem?_cons_succ, List.getElem?_cons_zero]; rfl) (by kernel_rfl) (by kernel_rfl) (by kernel_rfl) (fun _ _ _ h => False.elim h) (Or.inl ⟨by rfl, ?hy7⟩) (by assumption) ?rest7; (case hy7 => (intro w hSw; (try dsimp only at hSw); go_simp; (try with_reducible rfl))); (try simp only [Act.put, List.setIfInBounds_toArray, List.set_cons_zero, List.set_cons_succ]))
      (refine wpAnyH_take (i := 8) (v := ?v8) (by simp only [List.getElem?_toArray, List.getElem?_cons_succ, List.getElem?_cons_zero]; rfl) (by kernel_rfl) (by kernel_rfl) (by kernel_rfl) (fun _ _ _ h => False.elim h) (Or.inl ⟨by rfl, ?hy8⟩) (by assumption) ?rest8; (case hy8 => (intro w hSw; (try dsimp only at hSw); go_simp; (try with_reducible rfl))); (try simp only [Act.put, List.setIfInBounds_toArray, List.set_cons_zero, List.set_cons_succ]))
      (refine wpAnyH_take (i := 9) (v := ?v9) (by simp only [List.getElem?_toArray, List.getElem?_cons_succ, List.getElem?_cons_zero]; rfl) (by kernel_rfl) (by kernel_rfl) (by kernel_rfl) (fun _ _ _ h => False.elim h) (Or.inl ⟨by rfl, ?hy9⟩) (by assumption) ?rest9; (case hy9 => (intro w hSw; (try dsimp only at hSw); go_simp; (try with_reducible rfl))); (try simp only [Act.put, List.setIfInBounds_toArray, List.set_cons_zero, List.set_cons_succ]))
      (refine wpAnyH_ready (rs := [10]) (by kernel_rfl) (by simp) ?_; refine AllReadyH.cons (o := _) (by simp only [List.getElem?_toArray, List.getElem?_cons_succ, List.getElem?_cons_zero]; rfl) (fun K hK => ?_) AllReadyH.nil; go_simp; (skip); refine hK.out _ _ (by exact SK.out _ ((Below.refl _ _).alloc (Nat.le_refl _) _).drew) (fun hHeld => ?_); clear hK K; (try simp only [Act.put, List.setIfInBounds_toArray, List.set_cons_zero, List.set_cons_succ]))
      (refine wpAnyH_ready (rs := [11]) (by kernel_rfl) (by simp) ?_; refine AllReadyH.cons (o := _) (by simp only [List.getElem?_toArray, List.getElem?_cons_succ, List.getElem?_cons_zero]; rfl) (fun K hK => ?_) AllReadyH.nil; (((with_reducible apply step_append_run hrun); rfl; rfl; rfl; rfl; rfl)); refine hK.out _ _ (by exact HS3.out) (fun hHeld => ?_); clear hK K; (try simp only [Act.put, List.setIfInBounds_toArray, List.set_cons_zero, List.set_cons_succ]))
      (refine wpAnyH_take (i := 12) (v := ?v12) (by simp only [List.getElem?_toArray, List.getElem?_cons_succ, List.getElem?_cons_zero]; rfl) (by kernel_rfl) (by kernel_rfl) (by kernel_rfl) (fun _ _ _ h => False.elim h) (Or.inl ⟨by rfl, ?hy12⟩) (by assumption) ?rest12; (case hy12 => (intro w hSw; (try dsimp only at hSw); go_simp; (try with_reducible rfl))); (try simp only [Act.put, List.setIfInBounds_toArray, List.set_cons_zero, List.set_cons_succ]))
      refine wpAnyH_done (by kernel_rfl) ?_ _
      refine NoPanic.normal ?_
      go_wp2
      go_roundw
      case rel => first | exact ⟨k + 1, a3, c3, hkl, by go_num, rfl, HO3.out, HB3.out⟩ | ((repeat apply Exists.intro); refine ⟨?r, ?f⟩; (case f => (and_intros <;> rfl)); exact ⟨k + 1, a3, c3, hkl, by go_num, rfl, HO3.out, HB3.out⟩)
      case measure => simp [intOf]; omega
    · have hkn : k = rn := by omega
      subst hkn
      rw [List.take_of_length_le (by rw [Hrn.out]; exact Nat.le_refl _)] at hown
      have hcv := str_keep (n := 2 * k) (by rw [colb_len, Hrn.out]) (Rd.own hown) cap wr (Below.refl _ _)
      have HB := Lib.hid hB
      clear hown hB
      go_wp2
      go_ret
      exact ⟨rfl, HB.out⟩
end Cl
end Go.Proofs.YtfkjijjmphbglaaDoor
