/- dofferref22.Of: the document's classes. -/
import Derived.Test.YtfkjijjmphbglaaDoorRgt17
import Derived.Test.YtfkjijjmphbglaaDoorClsLaw
import Derived.Test.YtfkjijjmphbglaaDoorClsFew
namespace Go.Proofs.YtfkjijjmphbglaaDoor
open Go Go.RowKit Kt
namespace Cl
open Sb
section
variable {κ : Type} [DecidableEq κ] {key : Nat → κ}
theorem known_alike {b c j : Nat} (hb : b < c) (hk : key b = key c) (hj : (st key c).1[b]? = some j) : known key c (key c) = some j := by
  have ok := ok_st key c
  obtain ⟨i, f, h1, h2, h3, _⟩ := ok.lt b hb
  rw [hj] at h1
  simp only [Option.some.injEq] at h1
  subst h1
  unfold known
  have hjl := (List.getElem?_eq_some_iff.1 h2).1
  have hjv := (List.getElem?_eq_some_iff.1 h2).2
  cases hq : (st key c).2.findIdx? (fun b => decide (key b = key c)) with
  | none =>
    have := List.findIdx?_eq_none_iff.1 hq f (List.mem_of_getElem? h2)
    simp [h3, hk] at this
  | some q =>
    obtain ⟨hql, hqp, _⟩ := List.findIdx?_eq_some_iff_getElem.1 hq
    have h4 : key (st key c).2[q] = key c := by simpa using hqp
    rw [ok.inj q j _ f (List.getElem?_eq_getElem hql) h2 (by rw [h4, h3, hk])]
theorem known_noAlike {c : Nat} (h : ∀ b, b < c → key b ≠ key c) : known key c (key c) = none := by
  unfold known
  rw [List.findIdx?_eq_none_iff]
  intro f hf
  obtain ⟨j, hj⟩ := List.getElem?_of_mem hf
  have := (ok_st key c).fst j f hj
  simpa using h f this.1
end
/-- The list of classes under way. -/
def oL (rows : List (List Int)) (c : Nat) : List Int := Mk.ints (cl rows c) ++ List.replicate (256 - c) 0
theorem oL_len (rows : List (List Int)) (c : Nat) (hc : c ≤ 256) : (oL rows c).length = 256 := by simp [oL, Mk.ints, cl_len]; omega
theorem oL_set (rows : List (List Int)) (c j : Nat) (hc : c < 256) (h : cl rows (c + 1) = cl rows c ++ [j]) : (oL rows c).set c (j : Int) = oL rows (c + 1) := by
  have hl : (Mk.ints (cl rows c)).length = c := by simp [Mk.ints, cl_len]
  unfold oL
  rw [List.set_append_right _ _ (by omega), hl, Nat.sub_self, show 256 - c = (256 - (c + 1)) + 1 by omega, List.replicate_succ, List.set_cons_zero, h]
  simp [Mk.ints]
theorem oL_at (rows : List (List Int)) {b c : Nat} (hb : b < c) (_hc : c ≤ 256) : ∃ j : Nat, (oL rows c)[b]? = some (j : Int) ∧ (st (colb rows) c).1[b]? = some j := by
  have h2 : b < (cl rows c).length := by rw [cl_len]; exact hb
  refine ⟨(cl rows c)[b], ?_, List.getElem?_eq_getElem h2⟩
  unfold oL
  rw [List.getElem?_append_left (by simp [Mk.ints, cl_len]; exact hb)]
  simp [Mk.ints, h2]
theorem oL_zero (rows : List (List Int)) : oL rows 0 = zrow := rfl
theorem oL_end (rows : List (List Int)) : oL rows 256 = Mk.ints (cl rows 256) := by unfold oL; simp
/-- The memory of the document's Of. -/
structure Ro (w : World) (dv : Array Value) (L : List Int) (W : World) : Prop where
  d : W.heap[w.heap.size]? = some (.cells dv 38 (0, 0))
  r : W.heap[w.heap.size + 1]? = some (.cells (i64s zrow).toArray 28 (0, 0))
  o : W.heap[w.heap.size + 1 + 1]? = some (.cells (i64s L).toArray 28 (0, 0))
  below : Below w.heap.size w W
theorem Ro.step {w : World} {dv : Array Value} {L : List Int} {W W' : World} (h : Ro w dv L W) (hb : Below W.heap.size W W') : Ro w dv L W' :=
  ⟨(hb.block _ (block_lt h.d)).trans h.d, (hb.block _ (block_lt h.r)).trans h.r, (hb.block _ (block_lt h.o)).trans h.o, h.below.trans (hb.mono h.below.size)⟩
theorem Ro.set {w : World} {dv : Array Value} {L : List Int} {W : World} (h : Ro w dv L W) (c : Nat) (x : Int) : Ro w dv (L.set c x) (W.setCell ⟨w.heap.size + 1 + 1, c, none⟩ (.int .i64 x)) := by
  refine ⟨?_, ?_, ?_, h.below.setCell (p := ⟨w.heap.size + 1 + 1, c, none⟩) (by simp; omega) _⟩
  · rw [block_setOther (by omega)]; exact h.d
  · rw [block_setOther (by omega)]; exact h.r
  · rw [block_setCell h.o]
    congr 2
    simp [i64s]
def R1R (w : World) (dv : Array Value) (rows : List (List Int)) (many i : Value) (W : World) : Prop := ∃ c : Nat, c ≤ 256 ∧ i = .int .i64 (c : Int) ∧ many = .int .i64 ((fsts rows c).length : Nat) ∧ Ro w dv (oL rows c) W
def R2R (w : World) (dv : Array Value) (rows : List (List Int)) (c : Nat) (at' i : Value) (W : World) : Prop := ∃ b : Nat, b ≤ c ∧ i = .int .i64 (b : Int) ∧
  ((at' = .int .i64 (-1) ∧ ∀ q, q < b → colb rows q ≠ colb rows c) ∨ (∃ j : Nat, at' = .int .i64 (j : Int) ∧ known (colb rows) c (colb rows c) = some j)) ∧ Ro w dv (oL rows c) W
def R3R (w : World) (dv : Array Value) (rows : List (List Int)) (L : List Int) (b c n : Nat) (al i : Value) (W : World) : Prop := ∃ k : Nat, k ≤ n ∧ i = .int .i64 (k : Int) ∧ al = .bool (!apart b c (rows.take k)) ∧ Ro w dv L W
theorem store_blk28 {W : World} {b : Nat} {L : List Int} {old : Array Value} (hb : W.heap[b]? = some (.cells old 28 (0, 0))) (hs : old.size = 256) (hL : L.length = 256) :
    (storeCells ⟨b, 0, none⟩ (i64s L) 0).run Tryd.prog W = .ok () (W.setRow b (i64s L).toArray) := by
  have := run_storeCells_from (P := Tryd.prog) b 28 (i64s L) 0 old W hb (by rw [i64s_length]; omega) (oneCell_i64s L)
  simpa using this
theorem store_z28 (w : World) : (storeCells ⟨w.heap.size, 0, none⟩ Tryd.zeroCells28.toList 0).run Tryd.prog (w.alloc (.cells Tryd.zeroCells28 28)) = .ok () (w.alloc (.cells Tryd.zeroCells28 28)) := by
  have h := store_new28 w zrow_len
  have e : Tryd.zeroCells28.toList = i64s zrow := by rw [zc28]
  rw [e]
  rw [h, zc28]
set_option maxHeartbeats 8000000 in
set_option maxRecDepth 100000 in
theorem rof_c (ra ua ea : Option Addr) (rn rc un uc en ec : Nat) (rows : List (List Int)) (rule entry : List Int) (hrn : rows.length = rn) (h200 : rn ≤ 200) (hto : ∀ r ∈ rows, r.any (oth rows.length) = false) (w : World) (h : Df w ra ua ea rows rule entry) :
    Calls Tryd.prog 22 #[.agg #[.slice ra rn rc, .slice ua un uc, .slice ea en ec]] w fun e w' => e = .returned (.tuple #[.agg (i64s (Mk.ints (cl rows 256))).toArray, .int .i64 ((fsts rows 256).length : Nat)]) ∧ Below w.heap.size w w' := by
  obtain ⟨dv, hdv⟩ : ∃ dv : Array Value, dv = #[.slice ra rn rc, .slice ua un uc, .slice ea en ec] := ⟨_, rfl⟩
  have hci : ∀ b c, b < 256 → c < 256 → (colb rows b = colb rows c ↔ apart b c rows = false) := fun b c hb hc => by
    rw [colb_iff (m := rows.length) (by omega) hb hc rows h.w256 hto]
    unfold apart
    rw [List.any_eq_false]
    simp
  have b1 := heap_alloc_new w (.cells #[.slice ra rn rc, .slice ua un uc, .slice ea en ec] 38)
  have b2 := heap_alloc_new (w.alloc (.cells #[.slice ra rn rc, .slice ua un uc, .slice ea en ec] 38)) (.cells Tryd.zeroCells28 28)
  have b3 := heap_alloc_new ((w.alloc (.cells #[.slice ra rn rc, .slice ua un uc, .slice ea en ec] 38)).alloc (.cells Tryd.zeroCells28 28)) (.cells Tryd.zeroCells28 28)
  have hst0 := store_z28 ((w.alloc (.cells #[.slice ra rn rc, .slice ua un uc, .slice ea en ec] 38)).alloc (.cells Tryd.zeroCells28 28))
  (try simp only [World.size_alloc] at b2 b3 hst0)
  have R0 : Ro w dv (oL rows 0) (((w.alloc (.cells #[.slice ra rn rc, .slice ua un uc, .slice ea en ec] 38)).alloc (.cells Tryd.zeroCells28 28)).alloc (.cells Tryd.zeroCells28 28)) := by
    refine ⟨by rw [hdv]; exact block_alloc (block_alloc b1), by rw [← zc28]; exact block_alloc b2, by rw [oL_zero, ← zc28]; exact b3, ?_⟩
    exact ((((Below.refl _ w).alloc (Nat.le_refl _) _).alloc (by simp) _).alloc (by simp; omega) _)
  have R0 := Lib.hid R0
  have H := Lib.hid h
  have Hrn := Lib.hid hrn
  have HCi := Lib.hid hci
  have Hdv := Lib.hid hdv
  clear h hrn hto hci hdv b1 b2 b3
  go_enter Tryd.func22, Tryd.ntmps22
  go_wp2
  obtain ⟨W0, hW0⟩ : ∃ W0, ((w.alloc (.cells #[.slice ra rn rc, .slice ua un uc, .slice ea en ec] 38)).alloc (.cells Tryd.zeroCells28 28)).alloc (.cells Tryd.zeroCells28 28) = W0 := ⟨_, rfl⟩
  rw [hW0]
  rw [hW0] at R0
  clear hst0 hW0
  go_loopw [5, 6, 7, 8, 9, 11, 29] (fun many i _ _ _ _ _ W => R1R w dv rows many i W) (fun _ i _ _ _ _ _ _ => 256 - (intOf i).toNat)
  case atStart => exact ⟨0, by omega, rfl, rfl, R0.out⟩
  case round =>
    clear R0
    obtain ⟨c, hc, rfl, rfl, hO⟩ := hrel
    have hfl : (fsts rows c).length ≤ 256 := Nat.le_trans (fsts_len rows c) hc
    by_cases hlt : c < 256
    · have hd : decide ((c : Int) < 256) = true := by simp; omega
      have hcI : (c : Int) < 256 := by omega
      have HO := Lib.hid hO
      clear hO
      generalize hM : (fsts rows c).length = M at *
      have HM := Lib.hid hM
      clear hM
      go_wp2
      go_loopw [7, 8, 9, 11, 29] (fun at' i _ _ _ W => R2R w dv rows c at' i W) (fun _ i _ _ _ _ => c - (intOf i).toNat)
      case atStart => exact ⟨0, by omega, rfl, .inl ⟨rfl, fun q hq => by omega⟩, HO.out⟩
      case round =>
        clear HO
        obtain ⟨b, hb, rfl, hat, hO⟩ := hrel
        have hend : ∀ j : Nat, cl rows (c + 1) = cl rows c ++ [j] → Ro w dv (oL rows (c + 1)) (wr.setCell ⟨w.heap.size + 1 + 1, c, none⟩ (.int .i64 (j : Int))) := fun j hj => by
          have := hO.set c (j : Int)
          rwa [oL_set rows c j hlt hj] at this
        have k0 := cell_block hO.o c
        have k1 := frozen_block hO.o c
        have k2 : (i64s (oL rows c)).toArray[c]? = some (.int .i64 ((oL rows c)[c]'(by rw [oL_len _ _ (by omega)]; omega))) := by
          simp [i64s, oL_len rows c (by omega), hlt]
        rw [k2] at k0
        generalize (oL rows c)[c]'(by rw [oL_len _ _ (by omega)]; omega) = old at k0
        have HE := Lib.hid hend
        have HO := Lib.hid hO
        clear hend k2
        rcases hat with ⟨rfl, hno⟩ | ⟨j, rfl, hj⟩
        · by_cases hbc : b < c
          · have hb256 : b < 256 := by omega
            have hdd := hO.d
            rw [Hdv.out] at hdd
            have i0 := cell_block hdd 0
            simp at i0
            obtain ⟨j, hj1, hj2⟩ := oL_at rows hbc hc
            have hob : ∀ W, Below wr.heap.size wr W → W.cell? ⟨w.heap.size + 1 + 1, b, none⟩ = some (.int .i64 (j : Int)) := fun W hb => by
              rw [cell_block (hO.step hb).o b]
              simp [i64s, hj1]
            have hOb := Lib.hid hob
            have Hj2 := Lib.hid hj2
            have Hno := Lib.hid hno
            clear hO hdd hob hj1 hj2 hno k0 k1
            obtain ⟨wo, hwo⟩ : ∃ wo, wo = wr := ⟨_, rfl⟩
            subst hwo
            go_wp2
            go_loopw [9, 11, 29] (fun al _ i W => R3R w dv rows (oL rows c) b c rn al i W ∧ Below wo.heap.size wo W) (fun _ _ i _ => rn - (intOf i).toNat)
            case atStart => exact ⟨⟨0, by omega, rfl, rfl, HO.out⟩, Below.refl _ _⟩
            case round =>
              clear i0
              obtain ⟨⟨k, hk, rfl, rfl, hR⟩, hbw⟩ := hrel
              by_cases hlk : k < rn
              · have hkl : k < rows.length := by rw [Hrn.out]; exact hlk
                obtain ⟨bb, o, ha, hrg⟩ := row_at H.out.w256 (H.out.below hR.below).rr k hkl
                subst ha
                have h256 := H.out.w256 _ (List.getElem_mem hkl)
                have has := apart_step hkl b c
                generalize rows[k] = row at *
                have hl := load_at28 h256 hrg
                unfold rv at hl
                have hst := store_new28 wr h256
                have hln : (i64s row).length = 256 := by rw [i64s_length]; exact h256
                have hnew := heap_alloc_new wr (.cells (i64s row).toArray 28)
                have hbn := (Below.refl wr.heap.size wr).alloc (Nat.le_refl _) (.cells (i64s row).toArray 28)
                have hR2 := hR.step hbn
                have hbw2 := hbw.trans (hbn.mono hbw.size)
                have hbx : (i64s row)[b]? = some (.int .i64 (row.getD b 0)) := by
                  have : b < row.length := by omega
                  simp [i64s, List.getD_eq_getElem?_getD, this]
                have hcx : (i64s row)[c]? = some (.int .i64 (row.getD c 0)) := by
                  have : c < row.length := by omega
                  simp [i64s, List.getD_eq_getElem?_getD, this]
                have q0 := cell_block hnew b
                have q1 := cell_block hnew c
                rw [List.getElem?_toArray, hbx] at q0
                rw [List.getElem?_toArray, hcx] at q1
                have hbI : (b : Int) < 256 := by omega
                obtain ⟨W2, hW2⟩ : ∃ W2, wr.alloc (.cells (i64s row).toArray 28) = W2 := ⟨_, rfl⟩
                rw [hW2] at q0 q1 hR2 hbw2
                have HR2 := Lib.hid hR2
                have Hbw2 := Lib.hid hbw2
                have HW2 := Lib.hid hW2
                have Has := Lib.hid has
                clear hR hbw hrg hnew hbn hR2 hbw2 hW2 has hbx hcx h256
                generalize row.getD b 0 = x at *
                generalize row.getD c 0 = y at *
                have hxy : (!(x != y)) = (x == y) := by cases h : (x == y) <;> simp [bne, h]
                have Hxy := Lib.hid hxy
                clear hxy
                generalize apart b c (rows.take k) = ap at *
                cases ap with
                | true =>
                  have hnt : (!true) = false := rfl
                  go_wp2_with fail
                  refine wp_load_run hl rfl rfl ?_
                  go_wp2_with fail
                  rw [HW2.out]
                  go_quiet (fail)
                  go_wp2
                  go_roundw
                  case rel => exact ⟨⟨k + 1, by omega, by go_num, by rw [Has.out]; rfl, HR2.out.step (below_drewN (Below.refl _ _) _)⟩, below_drewN Hbw2.out _⟩
                  case measure => simp [intOf]; omega
                | false =>
                  go_wp2_with fail
                  refine wp_load_run hl rfl rfl ?_
                  go_wp2_with fail
                  rw [HW2.out]
                  go_quiet (fail)
                  go_wp2
                  go_roundw
                  case rel => exact ⟨⟨k + 1, by omega, by go_num, by rw [Has.out, Bool.false_or, Hxy.out], HR2.out.step (below_drewN (Below.refl _ _) _)⟩, below_drewN Hbw2.out _⟩
                  case measure => simp [intOf]; omega
              · have hkn : k = rn := by omega
                subst hkn
                have hd3 : decide ((k : Int) < (k : Int)) = false := by simp
                rw [List.take_of_length_le (by rw [Hrn.out]; exact Nat.le_refl _)]
                have hcb := HCi.out b c hb256 hlt
                have q0 := hOb.out _ hbw
                have hbI : (b : Int) < 256 := by omega
                have HR := Lib.hid hR
                have HCb := Lib.hid hcb
                clear hR hcb hbw
                cases hap : apart b c rows with
                | true =>
                  have hne : ∀ q, q < b + 1 → colb rows q ≠ colb rows c := fun q hq => by
                    by_cases hqb : q = b
                    · subst hqb
                      intro he
                      have := HCb.out.1 he
                      rw [hap] at this
                      cases this
                    · exact Hno.out q (by omega)
                  have Hne := Lib.hid hne
                  clear hne hap
                  go_wp2
                  go_roundw
                  case rel => exact ⟨b + 1, by omega, by go_num, .inl ⟨rfl, Hne.out⟩, HR.out⟩
                  case measure => simp [intOf]; omega
                | false =>
                  have hkn := known_alike hbc (HCb.out.2 hap) Hj2.out
                  have Hkn := Lib.hid hkn
                  clear hkn hap
                  go_wp2
                  go_roundw
                  case rel => exact ⟨b + 1, by omega, by go_num, .inr ⟨j, rfl, Hkn.out⟩, HR.out⟩
                  case measure => simp [intOf]; omega
          · have hbc2 : b = c := by omega
            subst hbc2
            have hkn := known_noAlike hno
            have e1 := known_none hkn
            rw [show (st (colb rows) b).2.length = M from HM.out] at e1
            have hcl : cl rows (b + 1) = cl rows b ++ [M] := by unfold cl; rw [e1]
            have hfs : (fsts rows (b + 1)).length = M + 1 := by
              have : fsts rows (b + 1) = fsts rows b ++ [b] := by unfold fsts; rw [e1]
              rw [this, List.length_append, HM.out]
              rfl
            have hE := HE.out M hcl
            have HEn := Lib.hid hE
            have Hfs := Lib.hid hfs
            have hd3 : decide ((b : Int) < (b : Int)) = false := by simp
            clear hno hkn e1 hcl hfs hE hO
            go_wp2
            go_roundw
            case rel => exact ⟨b + 1, by omega, by go_num, by rw [Hfs.out, Int.natCast_add]; rfl, HEn.out⟩
            case measure => simp [intOf]; omega
        · have e1 := known_some hj
          have hcl : cl rows (c + 1) = cl rows c ++ [j] := by unfold cl; rw [e1]
          have hfs : (fsts rows (c + 1)).length = M := by
            have : fsts rows (c + 1) = fsts rows c := by unfold fsts; rw [e1]
            rw [this, HM.out]
          have hE := HE.out j hcl
          have HEn := Lib.hid hE
          have Hfs := Lib.hid hfs
          have hj0 : decide ((j : Int) < 0) = false := by simp
          clear hj e1 hcl hfs hE hO
          by_cases hbc : b < c
          · have hd3 : decide ((b : Int) < (c : Int)) = true := by simp; omega
            go_wp2
            go_roundw
            case rel => exact ⟨c + 1, by omega, by go_num, by rw [Hfs.out], HEn.out⟩
            case measure => simp [intOf]; omega
          · have hd3 : decide ((b : Int) < (c : Int)) = false := by simp; omega
            go_wp2
            go_roundw
            case rel => exact ⟨c + 1, by omega, by go_num, by rw [Hfs.out], HEn.out⟩
            case measure => simp [intOf]; omega
    · have hcc : c = 256 := by omega
      have hd : decide ((c : Int) < 256) = false := by simp; omega
      have hcl : (Mk.ints (cl rows c)).length = 256 := by simp [Mk.ints, cl_len, hcc]
      have hO2 := hO.o
      have hoe : oL rows c = Mk.ints (cl rows c) := by unfold oL; rw [hcc]; simp
      rw [hoe] at hO2
      have hl := load_arr (C := Mk.ints (cl rows c)) Tryd.underlying28 info28 hcl (fun i x hx => hx) hO2
      have hst := store_blk28 hO.r (by simp [i64s_length, zrow_len]) hcl
      have hrb := setRow_heap wr _ _ (i64s (Mk.ints (cl rows c))).toArray _ _ hO.r
      have hB6 := below_setRow hO.below (Nat.le_succ _) (i64s (Mk.ints (cl rows c))).toArray
      have hln : (i64s (Mk.ints (cl rows c))).length = 256 := by rw [i64s_length]; exact hcl
      have hlv := run_loadVar_row (P := Tryd.prog) _ _ _ 28 _ _ _ hrb Tryd.underlying28 rfl (by rw [info28]; simp [i64s_length, hcl])
      have HLv := Lib.hid hlv
      have HB6 := Lib.hid hB6
      have Hcc := Lib.hid hcc
      clear hO hO2 hrb hB6 hlv hcl hfl hoe hcc
      go_wp2_with fail
      refine wp_load_run hl rfl rfl ?_
      go_wp2
      (try simp only [Exit.inBlock, Exit.then])
      refine bodyPost_ret (v := .tuple #[.agg (i64s (Mk.ints (cl rows c))).toArray, .int .i64 ((fsts rows c).length : Nat)]) ?_ rfl ?_
      · rw [results_cell_tmp (p := 2) (u := 3) (ty := 28) rfl]
        simp [asAddr, HLv.out, Result.andThen]
      · exact ⟨by rw [Hcc.out], HB6.out⟩
end Cl
end Go.Proofs.YtfkjijjmphbglaaDoor
