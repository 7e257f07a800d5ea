/- Package comb: Lay, of rows that may be laid. -/
import Derived.Test.YteekonojmpihlaaDoorQCbLay0
import Derived.Test.YteekonojmpihlaaDoorQCbPut
import Derived.Test.YteekonojmpihlaaDoorQCbStb2
import Derived.Test.YteekonojmpihlaaDoorQCbLayable
import Derived.Deep.CutBlock
import Derived.Test.YteekonojmpihlaaDoorQRetCell
namespace Go.Proofs.YteekonojmpihlaaDoor
namespace Kt
end Kt
open Go Go.RowKit Kt
open Go.Sort (PermIn SortedIn swp)
namespace Cb
theorem mk_int (n : Nat) (hn : n ≤ 200) (W : World) : (Instr.makeSlice 69 (.int .i64 (n : Int)) (.int .i64 (n : Int))).run Tryd.prog W = .ok (.slice (some ⟨W.heap.size, 0, none⟩) n n) (W.alloc (.cells (i64s (List.replicate n 0)).toArray 3)) := by
  obtain ⟨i, hi, hz, hs, hb⟩ := Mk.elI.info
  have h := run_make (P := Tryd.prog) W 69 3 i (.int .i64 0) Mk.elI.ht hi hz .i64 .i64 n n (by omega) (Int.le_refl _) (by rw [hb]; omega) (by omega)
  rw [hs] at h
  simp only [Int.toNat_natCast, Nat.mul_one] at h
  have e : madeCells (Value.int .i64 0).cells n = (i64s (List.replicate n 0)).toArray := by
    apply Array.toList_inj.1
    have e2 : ((Value.int .i64 0).cells) = #[.int .i64 0] := rfl
    rw [e2, toList_madeCells_one]
    simp [i64s]
  rw [e] at h
  exact h
theorem rx_zeros (W : World) (n : Nat) : Rx (W.alloc (.cells (i64s (List.replicate n 0)).toArray 3 (0, 0))) W.heap.size 3 n (i64s (List.replicate n 0)) := by
  have := Rx.new W 3 (i64s (List.replicate n 0))
  rw [i64s_length, List.length_replicate] at this
  exact this
/-- What the rows are, if they may be laid. -/
structure LyOk (rows : List (List Int)) (f : Nat) : Prop where
  many : 1 ≤ rows.length ∧ rows.length ≤ 200
  wide : 1 ≤ f ∧ f ≤ 256
  len : ∀ r ∈ rows, r.length = f
  num : ∀ r ∈ rows, ∀ n ∈ r, 0 ≤ n ∧ n < rows.length
theorem lyOk_of {rows : List (List Int)} (h : layable rows = true) : LyOk rows (rows.getD 0 []).length := by
  unfold layable at h
  simp only [Bool.and_eq_true, decide_eq_true_eq, List.all_eq_true] at h
  obtain ⟨h1, h2, h3, h4, h5⟩ := h
  refine ⟨⟨h1, h2⟩, ⟨h3, h4⟩, fun r hr => (h5 r hr).1, fun r hr n hn => ?_⟩
  have := (h5 r hr).2 n hn
  simp only [outb, Bool.not_eq_true', Bool.or_eq_false_iff, decide_eq_false_iff_not] at this
  omega
set_option maxRecDepth 100000 in
set_option maxHeartbeats 8000000 in
theorem lay_c (ra : Option Addr) (n rc : Nat) (L0 : List IRow) (rows : List (List Int)) (hL : L0.map (·.l) = rows) (hn : L0.length = n) (hN : n < 40) (hy : layable rows = true) (w : World) (hr : Rd w ra (L0.map IRow.v)) (hok : ∀ r ∈ L0, r.ok w) :
    Calls Tryd.prog 36 #[.slice ra n rc] w fun e w' => ∃ c : Cs, e = .returned (.tuple #[cv c, .nilIface]) ∧ c.wide = ((rows.getD 0 []).length : Int) ∧ c.base = (layL rows).base ∧ c.dflt = rows.map cmn ∧ c.next = (layL rows).next ∧ c.check = (layL rows).check ∧ Is w' c ∧ Below w.heap.size w w' := by
  have hrn : rows.length = n := by rw [← hL, List.length_map]; exact hn
  have hlo := lyOk_of hy
  obtain ⟨f, hf⟩ : ∃ f, (rows.getD 0 []).length = f := ⟨_, rfl⟩
  rw [hf] at hlo ⊢
  obtain ⟨W1, hW1⟩ : ∃ W1, w.alloc (.cells #[.int .i64 0, .slice none 0 0, .slice none 0 0, .slice none 0 0, .slice none 0 0] 71 (0, 0)) = W1 := ⟨_, rfl⟩
  have b1 : Below w.heap.size w W1 := by rw [← hW1]; exact (Below.refl _ _).alloc (Nat.le_refl _) _
  have s1 : W1.heap[w.heap.size]? = some (.cells #[.int .i64 0, .slice none 0 0, .slice none 0 0, .slice none 0 0, .slice none 0 0] 71 (0, 0)) := by rw [← hW1]; exact heap_alloc_new _ _
  have hlay := layable_c ra n rc L0 rows hL hn (by omega) W1 (hr.keep b1) (fun r h => (hok r h).keep b1)
  rw [hy] at hlay
  obtain ⟨b, o, ha, hc⟩ := hr.map_at 0 (by have := hlo.many; omega)
  rw [Nat.add_zero] at hc
  have h0L : 0 < L0.length := by have := hlo.many; omega
  have hr0 : L0[0].l.length = f := by
    rw [← hf]
    subst hL
    rw [List.getD_eq_getElem?_getD, List.getElem?_map, List.getElem?_eq_getElem (by have := hlo.many; omega)]
    rfl
  have hv0 : L0[0].v = .slice L0[0].a f L0[0].cap := by unfold IRow.v; rw [hr0]
  rw [hv0] at hc
  generalize L0[0].a = a0 at *
  generalize L0[0].cap = cp0 at *
  have HW1 := Lib.hid hW1
  have HB1 := Lib.hid b1
  have HS1 := Lib.hid s1
  have HLay := Lib.hid hlay
  have HL := Lib.hid (And.intro hL (And.intro hn (And.intro hrn (And.intro hr hok))))
  have HLo := Lib.hid hlo
  have HC0 := Lib.hid hc
  have hn1 : 0 < n := by have := hlo.many; omega
  have hni : (0 : Int) < (n : Int) := by omega
  subst ha
  obtain ⟨R, hR⟩ : ∃ R, w.heap.size = R := ⟨_, rfl⟩
  rw [hR] at HS1
  have HR := Lib.hid hR
  clear hW1 b1 s1 hlay hL hn hrn hlo hf hr0 hv0 hy hr hok hc hR
  go_enter Tryd.func36, Tryd.ntmps36
  go_upto_region 1 with (fail)
  rw [HW1.out, HR.out]
  go_wp2_with fail
  refine HLay.out.mono ?_
  rintro _ w2 ⟨rfl, hb2⟩
  have hB2 := HB1.out.trans (hb2.mono HB1.out.size)
  have hS2 := (hb2.block _ (block_lt HS1.out)).trans HS1.out
  have hc2 := (hB2.cell (p := ⟨b, o, none⟩) (lt_of_cell HC0.out)).trans HC0.out
  have hmk := mk_int n (by omega)
  have HB2 := Lib.hid hB2
  have HS2 := Lib.hid hS2
  clear hb2 hB2 hS2 HB1 HS1 HLay HW1
  go_upto_region 3 with (fail)
  go_cut [4, 22, 23] (fun p4 _ _ V => ∃ C B : Nat, p4 = .pointer (some ⟨C, 0, none⟩) ∧ V.heap[C]? = some (.cells #[.int .i64 (f : Int), .slice (some ⟨B, 0, none⟩) n n, .slice none 0 0, .slice none 0 0, .slice none 0 0] 71 (0, 0)) ∧ Rx V B 3 n (i64s (List.replicate n 0)) ∧ Below w2.heap.size w2 V ∧ w2.heap.size ≤ C ∧ w2.heap.size ≤ B ∧ B ≠ C)
  case first =>
    have SK : Hid (∀ V, Below w2.heap.size w2 V → V.cell? ⟨b, o, none⟩ = some (.slice a0 f cp0)) := Lib.hid (fun V hb => (hb.cell (p := ⟨b, o, none⟩) (lt_of_cell hc2)).trans hc2)
    refine wp_region_noPanic ?_
    refine wp_region_held_drew (S := fun V => V.cell? ⟨b, o, none⟩ = some (.slice a0 f cp0)) (by kernel_rfl) (SK.out _ (Below.refl _ _).drew) (fun hHeld => ?_)
    (refine wpAnyH_take (i := 0) (v := ?v0n1) (by simp only [List.getElem?_toArray, List.getElem?_cons_succ, List.getElem?_cons_zero]; rfl) (by kernel_rfl) (by kernel_rfl) (by kernel_rfl) (fun _ _ _ h => False.elim h) (Or.inl ⟨by rfl, ?hy0n1⟩) (by assumption) ?rest0n1; (case hy0n1 => (intro w hSw; (try dsimp only at hSw); go_simp; (try with_reducible rfl))); (try simp only [Act.put, List.setIfInBounds_toArray, List.set_cons_zero, List.set_cons_succ]))
    (refine wpAnyH_take (i := 4) (v := ?v4n2) (by simp only [List.getElem?_toArray, List.getElem?_cons_succ, List.getElem?_cons_zero]; rfl) (by kernel_rfl) (by kernel_rfl) (by kernel_rfl) (fun _ _ _ h => False.elim h) (Or.inl ⟨by rfl, ?hy4n2⟩) (by assumption) ?rest4n2; (case hy4n2 => (intro w hSw; (try dsimp only at hSw); go_simp; (try with_reducible rfl))); (try simp only [Act.put, List.setIfInBounds_toArray, List.set_cons_zero, List.set_cons_succ]))
    (refine wpAnyH_take (i := 1) (v := ?v1n3) (by simp only [List.getElem?_toArray, List.getElem?_cons_succ, List.getElem?_cons_zero]; rfl) (by kernel_rfl) (by kernel_rfl) (by kernel_rfl) (fun _ _ _ h => False.elim h) (Or.inl ⟨by rfl, ?hy1n3⟩) (by assumption) ?rest1n3; (case hy1n3 => (intro w hSw; (try dsimp only at hSw); go_simp; (try with_reducible rfl))); (try simp only [Act.put, List.setIfInBounds_toArray, List.set_cons_zero, List.set_cons_succ]))
    (refine wpAnyH_take (i := 2) (v := ?v2n4) (by simp only [List.getElem?_toArray, List.getElem?_cons_succ, List.getElem?_cons_zero]; rfl) (by kernel_rfl) (by kernel_rfl) (by kernel_rfl) (fun _ _ _ h => False.elim h) (Or.inl ⟨by rfl, ?hy2n4⟩) (by assumption) ?rest2n4; (case hy2n4 => (intro w hSw; (try dsimp only at hSw); go_simp; (try with_reducible rfl))); (try simp only [Act.put, List.setIfInBounds_toArray, List.set_cons_zero, List.set_cons_succ]))
    (refine wpAnyH_take (i := 3) (v := ?v3n5) (by simp only [List.getElem?_toArray, List.getElem?_cons_succ, List.getElem?_cons_zero]; rfl) (by kernel_rfl) (by kernel_rfl) (by kernel_rfl) (fun _ _ _ h => False.elim h) (Or.inl ⟨by rfl, ?hy3n5⟩) (by assumption) ?rest3n5; (case hy3n5 => (intro w hSw; (try dsimp only at hSw); go_simp; (try with_reducible rfl))); (try simp only [Act.put, List.setIfInBounds_toArray, List.set_cons_zero, List.set_cons_succ]))
    (refine wpAnyH_take (i := 5) (v := ?v5n6) (by simp only [List.getElem?_toArray, List.getElem?_cons_succ, List.getElem?_cons_zero]; rfl) (by kernel_rfl) (by kernel_rfl) (by kernel_rfl) (fun _ _ _ h => False.elim h) (Or.inl ⟨by rfl, ?hy5n6⟩) (by assumption) ?rest5n6; (case hy5n6 => (intro w hSw; (try dsimp only at hSw); go_simp; (try with_reducible rfl))); (try simp only [Act.put, List.setIfInBounds_toArray, List.set_cons_zero, List.set_cons_succ]))
    refine wpAnyH_ready (rs := [6, 8]) (by kernel_rfl) (by simp) ?_
    refine AllReadyH.cons (o := _) (by simp only [List.getElem?_toArray, List.getElem?_cons_succ, List.getElem?_cons_zero]; rfl) (fun K hK => ?_) ?_
    · (go_simp; (skip); refine hK.out _ _ (by exact SK.out _ (((Below.refl _ _).alloc (Nat.le_refl _) _).drew)) (fun hHeld => ?_); clear hK K; (try simp only [Act.put, List.setIfInBounds_toArray, List.set_cons_zero, List.set_cons_succ]))
      (refine wpAnyH_take (i := 7) (v := ?v7n7) (by simp only [List.getElem?_toArray, List.getElem?_cons_succ, List.getElem?_cons_zero]; rfl) (by kernel_rfl) (by kernel_rfl) (by kernel_rfl) (fun _ _ _ h => False.elim h) (Or.inl ⟨by rfl, ?hy7n7⟩) (by assumption) ?rest7n7; (case hy7n7 => (intro w hSw; (try dsimp only at hSw); go_simp; (try with_reducible rfl))); (try simp only [Act.put, List.setIfInBounds_toArray, List.set_cons_zero, List.set_cons_succ]))
      (refine wpAnyH_ready (rs := [8]) (by kernel_rfl) (by simp) ?_; refine AllReadyH.cons (o := _) (by simp only [List.getElem?_toArray, List.getElem?_cons_succ, List.getElem?_cons_zero]; rfl) (fun K hK => ?_) AllReadyH.nil; go_simp; (skip); refine hK.out _ _ (by exact SK.out _ ((((Below.refl _ _).alloc (Nat.le_refl _) _).alloc (by simp) _).drew)) (fun hHeld => ?_); clear hK K; (try simp only [Act.put, List.setIfInBounds_toArray, List.set_cons_zero, List.set_cons_succ]))
      (refine wpAnyH_ready (rs := [9]) (by kernel_rfl) (by simp) ?_; refine AllReadyH.cons (o := _) (by simp only [List.getElem?_toArray, List.getElem?_cons_succ, List.getElem?_cons_zero]; rfl) (fun K hK => ?_) AllReadyH.nil; go_simp; (skip); refine hK.out _ _ (by exact SK.out _ ((((Below.refl _ _).alloc (Nat.le_refl _) _).alloc (by simp) _).drew)) (fun hHeld => ?_); clear hK K; (try simp only [Act.put, List.setIfInBounds_toArray, List.set_cons_zero, List.set_cons_succ]))
      refine wpAnyH_done (by kernel_rfl) ?_ _
      refine NoPanic.normal ?_
      go_wp2
      go_meet
      exact ⟨w2.heap.size + 1, w2.heap.size, rfl, by
        have h := heap_alloc_new (w2.alloc (.cells (i64s (List.replicate n 0)).toArray 3)) (.cells #[.int .i64 (f : Int), .slice (some ⟨w2.heap.size, 0, none⟩) n n, .slice none 0 0, .slice none 0 0, .slice none 0 0] 71 (0, 0))
        rw [World.size_alloc] at h
        exact h, ((rx_zeros w2 n).alloc _).drew, (((Below.refl _ _).alloc (Nat.le_refl _) _).alloc (by simp) _).drew, by omega, Nat.le_refl _, by omega⟩
    · refine AllReadyH.cons (o := _) (by simp only [List.getElem?_toArray, List.getElem?_cons_succ, List.getElem?_cons_zero]; rfl) (fun K hK => ?_) AllReadyH.nil
      (go_simp; (skip); refine hK.out _ _ (by exact SK.out _ (((Below.refl _ _).alloc (Nat.le_refl _) _).drew)) (fun hHeld => ?_); clear hK K; (try simp only [Act.put, List.setIfInBounds_toArray, List.set_cons_zero, List.set_cons_succ]))
      (refine wpAnyH_ready (rs := [6]) (by kernel_rfl) (by simp) ?_; refine AllReadyH.cons (o := _) (by simp only [List.getElem?_toArray, List.getElem?_cons_succ, List.getElem?_cons_zero]; rfl) (fun K hK => ?_) AllReadyH.nil; go_simp; (skip); refine hK.out _ _ (by exact SK.out _ ((((Below.refl _ _).alloc (Nat.le_refl _) _).alloc (by simp) _).drew)) (fun hHeld => ?_); clear hK K; (try simp only [Act.put, List.setIfInBounds_toArray, List.set_cons_zero, List.set_cons_succ]))
      (refine wpAnyH_take (i := 7) (v := ?v7n8) (by simp only [List.getElem?_toArray, List.getElem?_cons_succ, List.getElem?_cons_zero]; rfl) (by kernel_rfl) (by kernel_rfl) (by kernel_rfl) (fun _ _ _ h => False.elim h) (Or.inl ⟨by rfl, ?hy7n8⟩) (by assumption) ?rest7n8; (case hy7n8 => (intro w hSw; (try dsimp only at hSw); go_simp; (try with_reducible rfl))); (try simp only [Act.put, List.setIfInBounds_toArray, List.set_cons_zero, List.set_cons_succ]))
      (refine wpAnyH_ready (rs := [9]) (by kernel_rfl) (by simp) ?_; refine AllReadyH.cons (o := _) (by simp only [List.getElem?_toArray, List.getElem?_cons_succ, List.getElem?_cons_zero]; rfl) (fun K hK => ?_) AllReadyH.nil; go_simp; (skip); refine hK.out _ _ (by exact SK.out _ ((((Below.refl _ _).alloc (Nat.le_refl _) _).alloc (by simp) _).drew)) (fun hHeld => ?_); clear hK K; (try simp only [Act.put, List.setIfInBounds_toArray, List.set_cons_zero, List.set_cons_succ]))
      refine wpAnyH_done (by kernel_rfl) ?_ _
      refine NoPanic.normal ?_
      go_wp2
      go_meet
      exact ⟨w2.heap.size, w2.heap.size + 1, rfl, block_alloc (heap_alloc_new w2 _), by
        have h := rx_zeros (w2.alloc (.cells #[.int .i64 (f : Int), .slice (some ⟨w2.heap.size + 1, 0, none⟩) n n, .slice none 0 0, .slice none 0 0, .slice none 0 0] 71 (0, 0))) n
        rw [World.size_alloc] at h
        exact h.drew, (((Below.refl _ _).alloc (Nat.le_refl _) _).alloc (by simp) _).drew, Nat.le_refl _, by omega, by omega⟩
  case rest =>
    obtain ⟨C, B, rfl, hbox, hrow, hbV, hC2, hB2', hBC⟩ := hcut
    obtain ⟨hL, hn, hrn, hr, hok⟩ := HL.out
    obtain ⟨Mp, hMp⟩ : ∃ M, wc.heap.size = M := ⟨_, rfl⟩
    obtain ⟨Mb, hMb⟩ : ∃ M, Mp + 1 = M := ⟨_, rfl⟩
    obtain ⟨wZ, hwZ⟩ : ∃ W, (wc.alloc (.map #[] 0)).alloc (.cells #[.map (some Mp)] 123 (0, 0)) = W := ⟨_, rfl⟩
    have bZ : Below wc.heap.size wc wZ := by rw [← hwZ]; exact ((Below.refl _ _).alloc (Nat.le_refl _) _).alloc (by simp) _
    have sZ : wZ.heap.size = Mp + 2 := by rw [← hwZ]; simp [hMp]
    have hmm := @run_makeMap Tryd.prog
    have hlt1 := block_lt hbox
    have hlt2 := hrow.lt
    have hX0 : Lx wZ C B Mb Mp n (f : Int) rows 0 0 0 none 0 none 0 [] wZ := by
      refine ⟨(bZ.block C hlt1).trans hbox, hrow.below bZ, ?_, ?_, ⟨rfl, .inl ⟨rfl, rfl⟩⟩, ⟨rfl, .inl ⟨rfl, rfl⟩⟩, rfl, by simp, by simp, by simp, by simp [bk], Mod.refl _ _, ⟨by omega, by omega, by omega, by omega⟩, ⟨hBC, by omega, by omega, by omega, by omega⟩⟩
      · rw [← hwZ]
        have h := heap_alloc_new (wc.alloc (.map #[] 0)) (.cells #[.map (some Mp)] 123 (0, 0))
        rw [World.size_alloc, hMp, hMb] at h
        exact h
      · rw [← hwZ, fL_nil, ← hMp]
        exact (MapS.made wc).below ((Below.refl _ _).alloc (Nat.le_refl _) _)
    have hBwZ : Below w.heap.size w wZ := (HB2.out.trans (hbV.mono HB2.out.size)).trans (bZ.mono (by have := HB2.out.size; have := hbV.size; omega))
    have hS2Z : wZ.heap[R]? = _ := (bZ.block R (by have := block_lt HS2.out; have := hbV.size; omega)).trans ((hbV.block R (block_lt HS2.out)).trans HS2.out)
    have hRlt : R < C ∧ R < B ∧ R < Mp ∧ B < Mb := ⟨by have := block_lt HS2.out; omega, by have := block_lt HS2.out; omega, by have := block_lt HS2.out; have := hbV.size; omega, by omega⟩
    have HX0 := Lib.hid hX0
    have HwZ := Lib.hid hwZ
    have HBwZ := Lib.hid hBwZ
    have HS2Z := Lib.hid hS2Z
    have HRlt := Lib.hid hRlt
    have HMp := Lib.hid hMp
    -- what the rows of the argument are, at every later world
    have hrowk : ∀ k, k < n → ∀ V, Below w.heap.size w V → ∃ (rk : IRow) (b' o' : Nat), some ⟨b, o, none⟩ = some (⟨b', o', none⟩ : Addr) ∧ V.cell? ⟨b', o' + k, none⟩ = some (.slice rk.a f rk.cap) ∧ rk.l = rows.getD k [] ∧ rk.l.length = f ∧ Rd V rk.a (i64s rk.l) ∧ rows[k]? = some rk.l ∧ (∀ x ∈ rk.l, 0 ≤ x ∧ x < 200) ∧ L0[k]? = some rk := fun k hk V hV => by
      have hkL : k < L0.length := by omega
      obtain ⟨b', o', ha', hc'⟩ := (hr.keep hV).map_at k hkL
      have hg : rows[k]? = some L0[k].l := by rw [← hL, List.getElem?_map, List.getElem?_eq_getElem hkL]; rfl
      have hm : L0[k].l ∈ rows := by rw [← hL]; exact List.mem_map_of_mem (List.getElem_mem hkL)
      have hl := HLo.out.len _ hm
      refine ⟨L0[k], b', o', ha', ?_, ?_, hl, ((hok _ (List.getElem_mem hkL)).keep hV).rd, hg, fun x hx => ?_, List.getElem?_eq_getElem hkL⟩
      · rw [hc']
        unfold IRow.v
        rw [hl]
      · rw [List.getD_eq_getElem?_getD, hg]
        rfl
      · have := HLo.out.num _ hm x hx
        omega
    have HRow := Lib.hid hrowk
    have HRn := Lib.hid hrn
    have HF : f ≤ 256 ∧ 1 ≤ f := ⟨HLo.out.wide.2, HLo.out.wide.1⟩
    clear hbox hrow hbV hX0 hwZ bZ sZ hBwZ hS2Z hRlt hrowk hL hn hrn hr hok hc2 hlt1 hlt2 hC2 hB2' hBC
    go_upto_region 6 with (fail)
    rw [HwZ.out]
    clear hMp hMb
    go_wp2
    go_loopw [5, 7, 8, 27] (fun s5 _ _ iv V => ∃ (k : Nat) (a2 : Option Addr) (c2 : Nat) (a5 : Option Addr) (c5 : Nat) (L : List IRow), k ≤ n ∧ iv = .int .i64 (k : Int) ∧ s5 = .slice a5 k c5 ∧ Lx wZ C B Mb Mp n (f : Int) rows k k k a2 c2 a5 c5 L V) (fun _ _ _ iv _ => n - (intOf iv).toNat)
    case atStart => exact ⟨0, none, 0, none, 0, [], Nat.zero_le _, rfl, rfl, HX0.out⟩
    case round =>
      clear HX0
      obtain ⟨k, a2, c2, a5, c5, L, hk, rfl, rfl, hX⟩ := hrel
      have hbw : ∀ V, Mod [C, Mp] wZ V → Below w.heap.size w V := fun V hM => HBwZ.out.trans (hM.toBelow HBwZ.out.size (fun x hx => by
        have := HRlt.out
        have := HR.out
        simp at hx
        omega))
      have HBw := Lib.hid hbw
      have HX := Lib.hid hX
      clear hbw hX
      by_cases hlt : k < n
      · obtain ⟨rk, b', o', hbo, hck, hrk, hlk, hrdk, hgk, hnk, e1⟩ := HRow.out k hlt wr (HBw.out wr HX.out.mod)
        cases hbo
        have hki : (k : Int) < (n : Int) := by omega
        have hkr : k < rows.length := by rw [HRn.out]; exact hlt
        have hrkk : rows[k] = rk.l := by rw [List.getElem?_eq_getElem hkr] at hgk; exact Option.some.inj hgk
        have hcm : ∀ V, Below wr.heap.size wr V → Calls Tryd.prog 73 #[.slice rk.a f rk.cap] V fun e w' => e = .returned (.int .i64 (cmn rk.l)) ∧ Below V.heap.size V w' := fun V hV => common_c rk.l rk.a f rk.cap hlk (by omega) (by omega) (fun x hx => WalkArith.wf_i64 (by have := hnk x hx; omega)) V (hrdk.keep hV)
        have how : ∀ V, Rd V rk.a (i64s rk.l) → Calls Tryd.prog 74 #[.slice rk.a f rk.cap] V fun e w' => ∃ r : IRow, e = .returned r.v ∧ r.ok w' ∧ r.l = ints (ownL rk.l) ∧ (∀ p, r.a = some p → V.heap.size ≤ p.block ∧ p.block < w'.heap.size ∧ p.off = 0 ∧ p.spot = none) ∧ Below V.heap.size V w' := fun V hV => own_c rk.l rk.a f rk.cap hlk (by omega) (by omega) (fun x hx => WalkArith.wf_i64 (by have := hnk x hx; omega)) V hV
        have HCm := Lib.hid hcm
        have HOw := Lib.hid how
        have HRd := Lib.hid hrdk
        have HRk := Lib.hid hrkk
        have HE1 := Lib.hid e1
        clear e1
        clear hcm how hrdk hrkk hgk hnk hrk hlk
        go_wp2_with fail
        clear hck
        have hs0 : ∀ V, Below wr.heap.size wr V → V.cell? ⟨C, 2, none⟩ = some (.slice a2 k c2) := fun V hV => (box5 ((HX.out.below hV).box)).2.2.1
        have HS0 := Lib.hid hs0
        have n0 : Below wr.heap.size wr wr.drew := (Below.refl _ _).drew
        clear hs0
        refine wp_region_noPanic ?_
        refine wp_region_T (fun _ => True) (fun V => V.cell? ⟨C, 2, none⟩ = some (.slice a2 k c2)) 7 (by kernel_rfl) ⟨trivial, fun _ => HS0.out _ n0⟩ (fun _ => ?_)
        (refine wpAnyT_take (i := 0) (v := ?v0t20) (by simp only [List.getElem?_toArray, List.getElem?_cons_succ, List.getElem?_cons_zero]; rfl) (by kernel_rfl) (by kernel_rfl) (by kernel_rfl) (by decide) (fun _ _ _ h => False.elim h) (Or.inl ⟨by rfl, ?hy0t20⟩) (by exact ⟨trivial, fun _ => HS0.out _ n0⟩) ?rest0t20; (case hy0t20 => (intro w hSw; (try dsimp only at hSw); go_simp; (try with_reducible rfl))); (try simp only [Act.put, List.setIfInBounds_toArray, List.set_cons_zero, List.set_cons_succ]))
        (refine wpAnyT_take0 (i := 1) (v := ?v1t21) (by simp only [List.getElem?_toArray, List.getElem?_cons_succ, List.getElem?_cons_zero]; rfl) (by kernel_rfl) (by kernel_rfl) (by kernel_rfl) (by decide) (by kernel_rfl) (by kernel_rfl) (fun _ _ _ h => False.elim h) (Or.inl ⟨by rfl, ?hy1t21⟩) (by exact ⟨trivial, fun _ => HS0.out _ n0⟩) ?rest1t21; (case hy1t21 => (intro w hSw; (try dsimp only at hSw); go_simp; (try with_reducible rfl))); (try simp only [Act.put, List.setIfInBounds_toArray, List.set_cons_zero, List.set_cons_succ]))
        (refine wpAnyT_take (i := 2) (v := ?v2t22) (by simp only [List.getElem?_toArray, List.getElem?_cons_succ, List.getElem?_cons_zero]; rfl) (by kernel_rfl) (by kernel_rfl) (by kernel_rfl) (by decide) (fun _ _ _ h => False.elim h) (Or.inl ⟨by rfl, ?hy2t22⟩) (by exact ⟨trivial, fun _ => HS0.out _ n0⟩) ?rest2t22; (case hy2t22 => (intro w hSw; (try dsimp only at hSw); go_simp; (try with_reducible rfl))); (try simp only [Act.put, List.setIfInBounds_toArray, List.set_cons_zero, List.set_cons_succ]))
        (refine wpAnyT_ready (rs := [3]) (by kernel_rfl) (by simp) ?_; refine AllReadyT.cons (o := _) (by simp only [List.getElem?_toArray, List.getElem?_cons_succ, List.getElem?_cons_zero]; rfl) (fun K hK => ?_) AllReadyT.nil; go_simp; ((with_reducible refine (HCm.out _ n0).mono ?_); rintro _ v1 ⟨rfl, hb1⟩; have n1 := n0.trans (hb1.mono n0.size)); refine hK.out _ _ (by exact ⟨trivial, fun _ => HS0.out _ n1⟩) (fun _ => ?_); clear hK K; (try simp only [Act.put, List.setIfInBounds_toArray, List.set_cons_zero, List.set_cons_succ]))
        have n2 := n1.alloc n1.size (.cells #[.int .i64 (cmn rk.l)] 3)
        obtain ⟨g2, k2', w3, runA, ownA, modA, hgA, hgl⟩ := ap1 ((HX.out.below n2).own2) v1.heap.size (cmn rk.l) (Rd.new v1 #[.int .i64 (cmn rk.l)] 3 (0, 0) _ rfl) (by omega) (by have := HX.out.mod.size; have := n2.size; omega)
        have hs3 : w3.cell? ⟨C, 2, none⟩ = some (.slice a2 k c2) := (modA.cell (p := ⟨C, 2, none⟩) (lt_of_cell (HS0.out _ n2)) (fun hm => by have := (HX.out.b2 C hm).1; have := HX.out.lt.1; omega)).trans (HS0.out _ n2)
        have hf3 : w3.frozen? ⟨C, 2, none⟩ = false := frozen_block ((modA.block C (block_lt ((HX.out.below n2).box)) (fun hm => by have := (HX.out.b2 C hm).1; have := HX.out.lt.1; omega)).trans (HX.out.below n2).box) 2
        rw [← HRk.out] at ownA
        have hX2 := (HX.out.below n2).push2 hkr modA ownA (hgA.imp id (fun e => Nat.le_of_eq e.symm))
        obtain ⟨w4, hw4⟩ : ∃ w4, w3.setCell ⟨C, 2, none⟩ (.slice (some ⟨g2, 0, none⟩) (k + 1) k2') = w4 := ⟨_, rfl⟩
        rw [hw4] at hX2
        have HX2 := Lib.hid hX2
        have Hw4 := Lib.hid hw4
        have hrd4 : Rd w4 rk.a (i64s rk.l) := by
          obtain ⟨rk2, _, _, _, _, _, _, hrd2, _, _, e2⟩ := HRow.out k hlt w4 (HBw.out w4 hX2.mod)
          have e3 := Option.some.inj (HE1.out.symm.trans e2)
          rw [e3]
          exact hrd2
        have HRd4 := Lib.hid hrd4
        clear hX2 hw4 ownA modA hgA hgl hrd4
        (refine wpAnyT_ready (rs := [4]) (by kernel_rfl) (by simp) ?_; refine AllReadyT.cons (o := _) (by simp only [List.getElem?_toArray, List.getElem?_cons_succ, List.getElem?_cons_zero]; rfl) (fun K hK => ?_) AllReadyT.nil; go_simp; (skip); refine hK.out _ _ (by exact ⟨trivial, fun _ => HS0.out _ n2⟩) (fun _ => ?_); clear hK K; (try simp only [Act.put, List.setIfInBounds_toArray, List.set_cons_zero, List.set_cons_succ]))
        (refine wpAnyT_ready (rs := [5]) (by kernel_rfl) (by simp) ?_; refine AllReadyT.cons (o := _) (by simp only [List.getElem?_toArray, List.getElem?_cons_succ, List.getElem?_cons_zero]; rfl) (fun K hK => ?_) AllReadyT.nil; (((with_reducible apply step_append_run runA); rfl; rfl; rfl; rfl; rfl)); refine hK.out _ _ (by exact ⟨trivial, fun _ => hs3⟩) (fun _ => ?_); clear hK K; (try simp only [Act.put, List.setIfInBounds_toArray, List.set_cons_zero, List.set_cons_succ]))
        (refine wpAnyT_take (i := 6) (v := ?v6t23) (by simp only [List.getElem?_toArray, List.getElem?_cons_succ, List.getElem?_cons_zero]; rfl) (by kernel_rfl) (by kernel_rfl) (by kernel_rfl) (by decide) (fun _ _ _ h => False.elim h) (Or.inl ⟨by rfl, ?hy6t23⟩) (by exact ⟨trivial, fun _ => hs3⟩) ?rest6t23; (case hy6t23 => (intro w hSw; (try dsimp only at hSw); go_simp; (try with_reducible rfl))); (try simp only [Act.put, List.setIfInBounds_toArray, List.set_cons_zero, List.set_cons_succ]))
        (refine wpAnyT_ready (rs := [7]) (by kernel_rfl) (by simp) ?_; refine AllReadyT.cons (o := _) (by simp only [List.getElem?_toArray, List.getElem?_cons_succ, List.getElem?_cons_zero]; rfl) (fun K hK => ?_) AllReadyT.nil; go_simp; (skip); refine hK.out _ _ (by exact ⟨trivial, fun h => absurd h (by decide)⟩) (fun _ => ?_); clear hK K; (try simp only [Act.put, List.setIfInBounds_toArray, List.set_cons_zero, List.set_cons_succ]))
        refine wpAnyT_done (by kernel_rfl) ?_ _
        refine NoPanic.normal ?_
        go_wp2_with fail
        rw [Hw4.out]
        clear runA hs3 hf3 hb1 n0 n1 n2 HS0
        have hs4 : ∀ V, Below w4.heap.size w4 V → V.cell? ⟨Mb, 0, none⟩ = some (.map (some Mp)) := fun V hV => cell_block ((HX2.out.below hV).mbox) 0
        have HS4 := Lib.hid hs4
        have m0 : Below w4.heap.size w4 w4.drew := (Below.refl _ _).drew
        clear hs4
        refine wp_region_noPanic ?_
        refine wp_region_held_drew (S := fun V => V.cell? ⟨Mb, 0, none⟩ = some (.map (some Mp))) (by kernel_rfl) (HS4.out _ m0) (fun hHeld => ?_)
        (refine wpAnyH_take (i := 0) (v := ?v0n9) (by simp only [List.getElem?_toArray, List.getElem?_cons_succ, List.getElem?_cons_zero]; rfl) (by kernel_rfl) (by kernel_rfl) (by kernel_rfl) (fun _ _ _ h => False.elim h) (Or.inl ⟨by rfl, ?hy0n9⟩) (by assumption) ?rest0n9; (case hy0n9 => (intro w hSw; (try dsimp only at hSw); go_simp; (try with_reducible rfl))); (try simp only [Act.put, List.setIfInBounds_toArray, List.set_cons_zero, List.set_cons_succ]))
        (refine wpAnyH_take (i := 1) (v := ?v1n10) (by simp only [List.getElem?_toArray, List.getElem?_cons_succ, List.getElem?_cons_zero]; rfl) (by kernel_rfl) (by kernel_rfl) (by kernel_rfl) (fun _ _ _ h => False.elim h) (Or.inl ⟨by rfl, ?hy1n10⟩) (by assumption) ?rest1n10; (case hy1n10 => (intro w hSw; (try dsimp only at hSw); go_simp; (try with_reducible rfl))); (try simp only [Act.put, List.setIfInBounds_toArray, List.set_cons_zero, List.set_cons_succ]))
        (refine wpAnyH_take (i := 2) (v := ?v2n11) (by simp only [List.getElem?_toArray, List.getElem?_cons_succ, List.getElem?_cons_zero]; rfl) (by kernel_rfl) (by kernel_rfl) (by kernel_rfl) (fun _ _ _ h => False.elim h) (Or.inl ⟨by rfl, ?hy2n11⟩) (by assumption) ?rest2n11; (case hy2n11 => (intro w hSw; (try dsimp only at hSw); go_simp; (try with_reducible rfl))); (try simp only [Act.put, List.setIfInBounds_toArray, List.set_cons_zero, List.set_cons_succ]))
        (refine wpAnyH_ready (rs := [3]) (by kernel_rfl) (by simp) ?_; refine AllReadyH.cons (o := _) (by simp only [List.getElem?_toArray, List.getElem?_cons_succ, List.getElem?_cons_zero]; rfl) (fun K hK => ?_) AllReadyH.nil; go_simp; ((with_reducible refine (HOw.out _ (HRd4.out.keep m0)).mono ?_); rintro _ v5 ⟨r, rfl, hro, hrl, hrp, hb5⟩; have m1 := m0.trans (hb5.mono m0.size)); refine hK.out _ _ (by exact HS4.out _ m1) (fun hHeld => ?_); clear hK K; (try simp only [Act.put, List.setIfInBounds_toArray, List.set_cons_zero, List.set_cons_succ]))
        obtain ⟨w6, runM, hms, grM⟩ := ((HX2.out.below m1).mp).set (by unfold maxLen; omega) (k : Int) (WalkArith.wf_i64 (by omega)) (svr r)
        rw [sv_svr (fun p hp => ⟨(hrp p hp).2.2.1, (hrp p hp).2.2.2⟩)] at runM
        have hM6 : Mod [Mp] v5 w6 := (Mod.refl [Mp] v5).grown grM (fun j hj => .inl (by cases hj; simp))
        have hX6 := (HX2.out.below m1).pushM hkr hro (by rw [HRk.out]; exact hrl) (fun p hp => by
          obtain ⟨h1, h2, h3, h4⟩ := hrp p hp
          have hz := HX2.out.mod.size
          have hz4 : w4.heap.size ≤ p.block := h1
          refine ⟨h3, h4, by omega, h2, fun hm => ?_, fun hm => ?_⟩
          · have := (HX2.out.b2 _ hm).2; omega
          · have := (HX2.out.b5 _ hm).2; omega) hms hM6
        have hs6 : w6.cell? ⟨Mb, 0, none⟩ = some (.map (some Mp)) := cell_block hX6.mbox 0
        have HX6 := Lib.hid hX6
        clear hX6 hM6 grM hms hrp hrl hro hb5
        (refine wpAnyH_ready (rs := [4]) (by kernel_rfl) (by simp) ?_; refine AllReadyH.cons (o := _) (by simp only [List.getElem?_toArray, List.getElem?_cons_succ, List.getElem?_cons_zero]; rfl) (fun K hK => ?_) AllReadyH.nil; go_simp; (skip); refine hK.out _ _ (by exact hs6) (fun hHeld => ?_); clear hK K; (try simp only [Act.put, List.setIfInBounds_toArray, List.set_cons_zero, List.set_cons_succ]))
        refine wpAnyH_done (by kernel_rfl) ?_ _
        refine NoPanic.normal ?_
        clear runM hs6 m0 m1 HS4 HX2 hHeld
        have n7 : Below w6.heap.size w6 (w6.alloc (.cells #[.int .i64 (k : Int)] 3)) := (Below.refl _ _).alloc (Nat.le_refl _) _
        obtain ⟨g5, k5', w7, runO, ownO, modO, hgO, _⟩ := ap1 ((HX6.out.below n7).own5) w6.heap.size (k : Int) (Rd.new w6 #[.int .i64 (k : Int)] 3 (0, 0) _ rfl) (by omega) (by have := HX6.out.mod.size; have := n7.size; omega)
        have hX7 := (HX6.out.below n7).push5 modO ownO (hgO.imp id (fun e => Nat.le_of_eq e.symm))
        have HX7 := Lib.hid hX7
        clear hX7 ownO modO hgO n7
        go_wp2_with (at_builtin; (with_reducible apply wpList_append_run runO); rfl; rfl; rfl; rfl; rfl)
        go_roundw
        case rel => exact ⟨k + 1, _, _, _, _, _, hlt, by go_num, rfl, HX7.out⟩
        case measure => simp [intOf]; omega
      · obtain rfl : k = n := by omega
        obtain ⟨g5, hg5⟩ := own_some HX.out.own5 hn1
        subst hg5
        have hsr : Sr wr g5 c5 k (Array.range k) wr := ⟨by
          have := (Rx.of_own HX.out.own5).1
          rw [Array.toList_range]
          exact this, Mod.refl _ _, by simp, fun q hq => by rw [range_get hq]; exact hq⟩
        have hLx : ∀ x, x < k → ∃ r, L[x]? = some r ∧ r.l = ints (ownL (rows.getD x [])) ∧ (∀ p, r.a = some p → p.off = 0 ∧ p.spot = none ∧ wZ.heap.size ≤ p.block ∧ p.block < wr.heap.size ∧ p.block ≠ g5) ∧ r.ok wr := fun x hx => by
          have hxL : x < L.length := by rw [HX.out.many]; exact hx
          have h1 : (L.map (·.l))[x]? = some L[x].l := by rw [List.getElem?_map, List.getElem?_eq_getElem hxL]; rfl
          rw [HX.out.ls, List.take_of_length_le (by rw [HRn.out]; exact Nat.le_refl _), List.getElem?_map, List.getElem?_eq_getElem (by rw [HRn.out]; exact hx)] at h1
          refine ⟨L[x], List.getElem?_eq_getElem hxL, ?_, fun p hp => ?_, HX.out.ok _ (List.getElem_mem hxL)⟩
          · rw [List.getD_eq_getElem?_getD, List.getElem?_eq_getElem (by rw [HRn.out]; exact hx)]
            exact (Option.some.inj h1).symm
          · obtain ⟨e1, e2, e3, e4, _, e6⟩ := HX.out.loc _ (List.getElem_mem hxL) p hp
            exact ⟨e1, e2, e3, e4, fun e => e6 (by simp [bk, e])⟩
        have hfL : ∀ (x : Nat) (r : IRow), L[x]? = some r → fL L (x : Int) = svr r := fun x r hx => by
          unfold fL
          rw [if_pos (by omega), Int.toNat_natCast, List.getD_eq_getElem?_getD, hx]
          rfl
        obtain ⟨key, hkey⟩ : ∃ key : Nat → Nat, key = fun i => ownN (rows.getD i []) := ⟨_, rfl⟩
        have hkl : ∀ x, x < k → (fL L (x : Int)).n = key x := fun x hx => by
          obtain ⟨r, h1, h2, _⟩ := hLx x hx
          rw [hfL x r h1, hkey]
          show r.l.length = _
          rw [h2, ints_len]
          rfl
        have hb5 := HX.out.b5 g5 (by simp [bk])
        have hlts := HX.out.lt
        have hcmp : CmpOK wr g5 Mb k key := fun x y hx hy V hM => by
          have hm : MapS V Mp k (fL L) := HX.out.mp.mod hM (by simp; omega)
          have h1 : V.cell? ⟨Mb, 0, none⟩ = some (.map (some Mp)) := cell_block ((hM.block Mb (block_lt HX.out.mbox) (by simp; omega)).trans HX.out.mbox) 0
          have := lay1_c Mb Mp k (fL L) x y (by omega) (by omega) V hm h1
          rw [hkl x hx, hkl y hy] at this
          exact this
        have hsort := sort_c Mb key hN hcmp hsr (fun p q h1 h2 => by rw [range_get h2, range_get (by omega)]; exact h1)
        have HSort := Lib.hid hsort
        have HLx := Lib.hid hLx
        have HfL := Lib.hid hfL
        have Hkey := Lib.hid hkey
        have Hb5 := Lib.hid hb5
        clear hsr hLx hfL hkey hkl hcmp hsort hb5 hlts
        have hnlt : ¬ (k : Int) < (k : Int) := by omega
        go_wp2_with fail
        refine HSort.out.mono ?_
        rintro _ w7 ⟨rfl, d', hsd, hpd, hqd⟩
        have hord : d'.toList = ord rows := by
          unfold ord
          rw [HRn.out, ← Hkey.out]
          exact ordN_of hpd hqd
        obtain ⟨O, hO⟩ : ∃ O, ord rows = O := ⟨_, rfl⟩
        rw [hO] at hord
        have hOl : O.length = k := by rw [← hord, Array.length_toList, hsd.sz]
        have hOx : ∀ q (h : q < k), ∃ x, O[q]? = some x ∧ x < k ∧ w7.cell? ⟨g5, q, none⟩ = some (.int .i64 (x : Int)) := fun q hq => by
          have h1 : q < d'.size := by rw [hsd.sz]; exact hq
          refine ⟨d'[q]!, ?_, hsd.bd q hq, hsd.cell q hq⟩
          rw [← hord, Array.getElem?_toList, Array.getElem?_eq_getElem h1, getElem!_pos d' q h1]
        have hM7 := hsd.mod
        have hz7 := hM7.size
        have hlts := HX.out.lt
        have hne5 := Hb5.out
        have nn : ∀ x, x < wZ.heap.size → x ∉ [g5] := fun x hx => by simp; omega
        have hpm : Pm w7 C B k (f : Int) (.slice a2 k c2) [] ⟨List.replicate rows.length 0, [], []⟩ 0 none 0 none 0 w7 := by
          refine ⟨(hM7.block C (block_lt HX.out.box) (nn C hlts.1)).trans HX.out.box, ?_, ⟨rfl, .inl ⟨rfl, rfl⟩⟩, ⟨rfl, .inl ⟨rfl, rfl⟩⟩, by simp [HRn.out], rfl, rfl, (fun p q hp => by cases hp), (fun p hp => by rcases hp with h | h <;> cases h), by simp, Mod.refl _ _, ?_, ?_, HX.out.ne.1⟩
          · rw [HRn.out]
            exact HX.out.row.mod hM7 (nn B hlts.2.1)
          · have := block_lt HX.out.box; omega
          · have := HX.out.row.lt; omega
        have hmp7 : MapS w7 Mp k (fL L) := HX.out.mp.mod hM7 (nn Mp hlts.2.2.2)
        have hmb7 : w7.heap[Mb]? = some (.cells #[.map (some Mp)] 123 (0, 0)) := (hM7.block Mb (block_lt HX.out.mbox) (nn Mb hlts.2.2.1)).trans HX.out.mbox
        have hW7 : Mod [C, Mp] wZ w7 := HX.out.mod.trans hM7 (fun x hx => .inr (by simp at hx; omega))
        have hrd2 : Rd w7 a2 (i64s (rows.map cmn)) := by
          have h1 := Rd.own HX.out.own2
          rw [List.take_of_length_le (by rw [HRn.out]; exact Nat.le_refl _)] at h1
          refine h1.mod hM7 (fun p hp hm => ?_)
          obtain ⟨g, hg⟩ := own_some HX.out.own2 hn1
          rw [hg] at hp
          cases hp
          have e : g = g5 := by simpa using hm
          exact HX.out.ap g (by rw [hg]; simp [bk]) (by rw [e]; simp [bk])
        have HO := Lib.hid hO
        have HOl := Lib.hid hOl
        have HOx := Lib.hid hOx
        have HPm := Lib.hid hpm
        have HMp7 := Lib.hid hmp7
        have HMb7 := Lib.hid hmb7
        have HW7 := Lib.hid hW7
        have HRd2 := Lib.hid hrd2
        have HM7 := Lib.hid hM7
        clear hord hO hOl hOx hsd hpd hqd hM7 hz7 hlts hne5 nn hpm hmp7 hmb7 hW7 hrd2 HSort
        go_wp2
        go_loopw [10, 53] (fun _ iv V => ∃ (j m : Nat) (a3 : Option Addr) (c3 : Nat) (a4 : Option Addr) (c4 : Nat), j ≤ k ∧ iv = .int .i64 (j : Int) ∧ m ≤ 256 * j ∧ Pm w7 C B k (f : Int) (.slice a2 k c2) [] ((O.take j).foldl (layS rows) ⟨List.replicate rows.length 0, [], []⟩) m a3 c3 a4 c4 V) (fun _ iv _ => k - (intOf iv).toNat)
        case atStart => exact ⟨0, 0, none, 0, none, 0, Nat.zero_le _, rfl, Nat.le_refl _, HPm.out⟩
        case round =>
          obtain ⟨j, m, a3, c3, a4, c4, hj, rfl, hm, hp⟩ := hrel
          by_cases hlt : j < k
          · obtain ⟨i, hoi, hik, hci7⟩ := HOx.out j hlt
            obtain ⟨r, hri, hrl, hrloc, hrok⟩ := HLx.out i hik
            have hf1 := HfL.out i r hri
            have hz7 := HM7.out.size
            have hlts := HX.out.lt
            have hne5 := Hb5.out
            have hCB : ∀ x ∈ [C, B], x < wZ.heap.size := fun x hx => by simp at hx; omega
            have hRx := HRlt.out
            have hRe := HR.out
            have hbV : ∀ V, Mod [C, B] w7 V → Below w.heap.size w V := fun V hM => (HBw.out w7 HW7.out).trans (hM.toBelow (HBw.out w7 HW7.out).size (fun x hx => by simp at hx; omega))
            obtain ⟨rk, b', o', hbo, hck, hrk, hlk, hrdk, hgk, hnk, e1⟩ := HRow.out i hik wr (hbV _ hp.mod)
            cases hbo
            have hrnum : ∀ V, Mod [C, B] w7 V → Rd V rk.a (i64s rk.l) := fun V hM => by
              obtain ⟨rk2, _, _, _, _, _, _, hrd2, _, _, e2⟩ := HRow.out i hik V (hbV V hM)
              have e3 := Option.some.inj (e1.symm.trans e2)
              rw [e3]
              exact hrd2
            have hrpl : ∀ V, Mod [C, B] w7 V → Rd V r.a (i64s (ints (ownL rk.l))) := fun V hM => by
              rw [hrk, ← hrl]
              refine (hrok.rd.mod HM7.out (fun p hp hm => ?_)).mod hM (fun p hp hm => ?_)
              · exact (hrloc p hp).2.2.2.2 (by simpa using hm)
              · have := (hrloc p hp).2.2.1
                have := hCB _ hm
                omega
            have hSS : ∀ V, Mod [C, B] w7 V → V.cell? ⟨b, o + i, none⟩ = some (.slice rk.a f rk.cap) ∧ V.cell? ⟨Mb, 0, none⟩ = some (.map (some Mp)) ∧ (Instr.lookup 123 (.map (some Mp)) (.int .i64 (i : Int)) false).run Tryd.prog V = .ok (.slice r.a r.l.length r.cap) V := fun V hM => by
              obtain ⟨rk2, b2, o2, hbo2, hck2, _, _, _, _, _, e2⟩ := HRow.out i hik V (hbV V hM)
              cases hbo2
              have e3 := Option.some.inj (e1.symm.trans e2)
              subst e3
              have hg := (HMp7.out.mod hM (fun hm => by have := hCB _ hm; simp at hm; have := HX.out.ne; omega)).get (i : Int) (WalkArith.wf_i64 (by omega))
              rw [hf1, sv_svr (fun p hp => ⟨(hrloc p hp).1, (hrloc p hp).2.1⟩)] at hg
              exact ⟨hck2, cell_block ((hM.block Mb (block_lt HMb7.out) (by simp; have := HX.out.ne; omega)).trans HMb7.out) 0, hg⟩
            have hpl : (ownL rk.l).length = r.l.length := by rw [hrl, hrk, ints_len]
            have hple : r.l.length ≤ 256 := by
              rw [← hpl]
              have : (ownL rk.l).length ≤ rk.l.length := by
                unfold ownL
                exact Nat.le_trans (List.length_filter_le _ _) (by rw [List.length_range]; exact Nat.le_refl _)
              omega
            obtain ⟨pl, hple2⟩ : ∃ pl, r.l.length = pl := ⟨_, rfl⟩
            rw [hple2] at hpl hple hSS
            have hst : (O.take (j + 1)).foldl (layS rows) ⟨List.replicate rows.length 0, [], []⟩ = putS ((O.take j).foldl (layS rows) ⟨List.replicate rows.length 0, [], []⟩) i (baseOf ((O.take j).foldl (layS rows) ⟨List.replicate rows.length 0, [], []⟩).check (ownL rk.l)) rk.l (ownL rk.l) := by
              rw [List.take_add_one, hoi, List.foldl_append]
              simp only [Option.toList_some, List.foldl_cons, List.foldl_nil]
              rw [layS_eq, ← hrk]
            have hput := fun V hV => put_c w7 C B k (f : Int) (.slice a2 k c2) ((O.take j).foldl (layS rows) ⟨List.replicate rows.length 0, [], []⟩) m a3 c3 a4 c4 V i hik (by omega) rk.l rk.a f rk.cap hlk (ownL rk.l) r.a pl r.cap hpl (by omega) (fun p hp => by
              unfold ownL at hp
              have := List.mem_range.1 (List.mem_filter.1 hp).1
              omega) hrnum hrpl hV
            rw [← hst] at hput
            have hcj : wr.cell? ⟨g5, j, none⟩ = some (.int .i64 (i : Int)) := (hp.mod.cell (p := ⟨g5, j, none⟩) (lt_of_cell hci7) (fun hm => by have := hCB _ hm; have := (Hb5.out).1; simp at *; omega)).trans hci7
            have HPut := Lib.hid hput
            have HSS := Lib.hid hSS
            have HP := Lib.hid hp
            have hji : (j : Int) < (k : Int) := by omega
            have hii : (i : Int) < (k : Int) := by omega
            have hi0 : (0 : Int) ≤ (i : Int) := by omega
            have hj0 : (0 : Int) ≤ (j : Int) := by omega
            clear hput hSS hp hst hpl hple hple2 hrnum hrpl hrdk hgk hnk hlk hrk hck hbV hci7 hoi hri hrl hrloc hrok hf1 hCB hlts hne5 hz7
            go_wp2_with fail
            clear hcj
            have m0 : Mod [C, B] w7 wr.drew := HP.out.mod.drew
            refine wp_region_noPanic ?_
            refine wp_region_held_drew (S := fun V => V.cell? ⟨b, o + i, none⟩ = some (.slice rk.a f rk.cap) ∧ V.cell? ⟨Mb, 0, none⟩ = some (.map (some Mp)) ∧ (Instr.lookup 123 (.map (some Mp)) (.int .i64 (i : Int)) false).run Tryd.prog V = .ok (.slice r.a pl r.cap) V) (by kernel_rfl) (HSS.out _ m0) (fun hHeld => ?_)
            (refine wpAnyH_take (i := 0) (v := ?v0n12) (by simp only [List.getElem?_toArray, List.getElem?_cons_succ, List.getElem?_cons_zero]; rfl) (by kernel_rfl) (by kernel_rfl) (by kernel_rfl) (fun _ _ _ h => False.elim h) (Or.inl ⟨by rfl, ?hy0n12⟩) (by assumption) ?rest0n12; (case hy0n12 => (intro w hSw; (try dsimp only at hSw); go_simp; (try with_reducible rfl))); (try simp only [Act.put, List.setIfInBounds_toArray, List.set_cons_zero, List.set_cons_succ]))
            (refine wpAnyH_take (i := 1) (v := ?v1n13) (by simp only [List.getElem?_toArray, List.getElem?_cons_succ, List.getElem?_cons_zero]; rfl) (by kernel_rfl) (by kernel_rfl) (by kernel_rfl) (fun _ _ _ h => False.elim h) (Or.inl ⟨by rfl, ?hy1n13⟩) (by assumption) ?rest1n13; (case hy1n13 => (intro w hSw; (try dsimp only at hSw); go_simp; (try with_reducible rfl))); (try simp only [Act.put, List.setIfInBounds_toArray, List.set_cons_zero, List.set_cons_succ]))
            (refine wpAnyH_take (i := 2) (v := ?v2n14) (by simp only [List.getElem?_toArray, List.getElem?_cons_succ, List.getElem?_cons_zero]; rfl) (by kernel_rfl) (by kernel_rfl) (by kernel_rfl) (fun _ _ _ h => False.elim h) (Or.inl ⟨by rfl, ?hy2n14⟩) (by assumption) ?rest2n14; (case hy2n14 => (intro w hSw; (try dsimp only at hSw); go_simp; (try with_reducible rfl))); (try simp only [Act.put, List.setIfInBounds_toArray, List.set_cons_zero, List.set_cons_succ]))
            (refine wpAnyH_take (i := 6) (v := ?v6n15) (by simp only [List.getElem?_toArray, List.getElem?_cons_succ, List.getElem?_cons_zero]; rfl) (by kernel_rfl) (by kernel_rfl) (by kernel_rfl) (fun _ _ _ h => False.elim h) (Or.inl ⟨by rfl, ?hy6n15⟩) (by assumption) ?rest6n15; (case hy6n15 => (intro w hSw; (try dsimp only at hSw); go_simp; (try with_reducible rfl))); (try simp only [Act.put, List.setIfInBounds_toArray, List.set_cons_zero, List.set_cons_succ]))
            (refine wpAnyH_take (i := 3) (v := ?v3n16) (by simp only [List.getElem?_toArray, List.getElem?_cons_succ, List.getElem?_cons_zero]; rfl) (by kernel_rfl) (by kernel_rfl) (by kernel_rfl) (fun _ _ _ h => False.elim h) (Or.inl ⟨by rfl, ?hy3n16⟩) (by assumption) ?rest3n16; (case hy3n16 => (intro w hSw; (try dsimp only at hSw); go_simp; (try with_reducible rfl))); (try simp only [Act.put, List.setIfInBounds_toArray, List.set_cons_zero, List.set_cons_succ]))
            (refine wpAnyH_take (i := 4) (v := ?v4n17) (by simp only [List.getElem?_toArray, List.getElem?_cons_succ, List.getElem?_cons_zero]; rfl) (by kernel_rfl) (by kernel_rfl) (by kernel_rfl) (fun _ _ _ h => False.elim h) (Or.inl ⟨by rfl, ?hy4n17⟩) (by assumption) ?rest4n17; (case hy4n17 => (intro w hSw; (try dsimp only at hSw); go_simp; (try with_reducible rfl))); (try simp only [Act.put, List.setIfInBounds_toArray, List.set_cons_zero, List.set_cons_succ]))
            (refine wpAnyH_take (i := 5) (v := ?v5n18) (by simp only [List.getElem?_toArray, List.getElem?_cons_succ, List.getElem?_cons_zero]; rfl) (by kernel_rfl) (by kernel_rfl) (by kernel_rfl) (fun _ _ _ h => False.elim h) (Or.inl ⟨by rfl, ?hy5n18⟩) (by assumption) ?rest5n18; (case hy5n18 => (intro w hSw; (try dsimp only at hSw); go_simp; (try with_reducible rfl))); (try simp only [Act.put, List.setIfInBounds_toArray, List.set_cons_zero, List.set_cons_succ]))
            (refine wpAnyH_take (i := 7) (v := ?v7n19) (by simp only [List.getElem?_toArray, List.getElem?_cons_succ, List.getElem?_cons_zero]; rfl) (by kernel_rfl) (by kernel_rfl) (by kernel_rfl) (fun _ _ _ h => False.elim h) (Or.inl ⟨by rfl, ?hy7n19⟩) (by assumption) ?rest7n19; (case hy7n19 => (intro w hSw; (try dsimp only at hSw); go_simp; (try with_reducible rfl))); (try simp only [Act.put, List.setIfInBounds_toArray, List.set_cons_zero, List.set_cons_succ]))
            (refine wpAnyH_ready (rs := [8]) (by kernel_rfl) (by simp) ?_; refine AllReadyH.cons (o := _) (by simp only [List.getElem?_toArray, List.getElem?_cons_succ, List.getElem?_cons_zero]; rfl) (fun K hK => ?_) AllReadyH.nil; go_simp; ((with_reducible refine (HPut.out _ HP.out.drew).mono ?_); rintro _ v8 ⟨rfl, m', a3', c3', a4', c4', hm8, hp8⟩); refine hK.out _ _ (by exact HSS.out _ hp8.mod) (fun hHeld => ?_); clear hK K; (try simp only [Act.put, List.setIfInBounds_toArray, List.set_cons_zero, List.set_cons_succ]))
            refine wpAnyH_done (by kernel_rfl) ?_ _
            refine NoPanic.normal ?_
            have HP8 := Lib.hid hp8
            clear hp8 hHeld m0
            go_wp2
            go_roundw
            case rel => exact ⟨j + 1, m', a3', c3', a4', c4', hlt, by go_num, by omega, HP8.out⟩
            case measure => simp [intOf]; omega
          · obtain rfl : j = k := by omega
            rw [List.take_of_length_le (by rw [HOl.out]; exact Nat.le_refl _)] at hp
            have hly : O.foldl (layS rows) ⟨List.replicate rows.length 0, [], []⟩ = layL rows := by unfold layL; rw [HO.out]
            rw [hly] at hp
            have hRx := HRlt.out
            have hRe := HR.out
            have hlts := HX.out.lt
            have hz7 := HM7.out.size
            have hzZ := HW7.out.size
            have hRw : wr.heap[R]? = some (.cells #[.int .i64 0, .slice none 0 0, .slice none 0 0, .slice none 0 0, .slice none 0 0] 71 (0, 0)) :=
              (hp.mod.block R (by have := block_lt HS2Z.out; omega) (by simp; omega)).trans ((HW7.out.block R (block_lt HS2Z.out) (by simp; omega)).trans HS2Z.out)
            obtain ⟨q0, q1, q2, q3, q4⟩ := box5 hRw
            obtain ⟨z0, z1, z2, z3, z4⟩ := box5 hp.box
            have f0 := frozen_block hRw 0
            have f1 := frozen_block hRw 1
            have f2 := frozen_block hRw 2
            have f3 := frozen_block hRw 3
            have f4 := frozen_block hRw 4
            have hne : R ≠ C := by omega
            have hnlt2 : ¬ (j : Int) < (j : Int) := by omega
            have HP := Lib.hid hp
            have HRw := Lib.hid hRw
            obtain ⟨wF, hwF⟩ : ∃ W, ((((wr.setCell ⟨R, 0, none⟩ (.int .i64 (f : Int))).setCell ⟨R, 1, none⟩ (.slice (some ⟨B, 0, none⟩) j j)).setCell ⟨R, 2, none⟩ (.slice a2 j c2)).setCell ⟨R, 3, none⟩ (.slice a3 m c3)).setCell ⟨R, 4, none⟩ (.slice a4 m c4) = W := ⟨_, rfl⟩
            have hMF : Mod [R] wr wF := by
              rw [← hwF]
              exact ((((((Mod.refl [R] wr).setCell (.inl (by simp)) _).setCell (.inl (by simp)) _).setCell (.inl (by simp)) _).setCell (.inl (by simp)) _).setCell (.inl (by simp)) _)
            have hFb : wF.heap[R]? = some (.cells #[.int .i64 (f : Int), .slice (some ⟨B, 0, none⟩) j j, .slice a2 j c2, .slice a3 m c3, .slice a4 m c4] 71 (0, 0)) := by
              rw [← hwF, block_setCell (block_setCell (block_setCell (block_setCell (block_setCell hRw _) _) _) _) _]
              simp
            have hbw : Below w.heap.size w wF := by
              have h1 := HBw.out w7 HW7.out
              have h2 : Below w.heap.size w7 wr := hp.mod.toBelow h1.size (fun x hx => by simp at hx; omega)
              have h3 := h1.trans h2
              exact h3.trans (hMF.toBelow h3.size (fun x hx => by simp at hx; omega))
            obtain ⟨g2, hg2⟩ := own_some HX.out.own2 hn1
            have hb2 := HX.out.b2 g2 (by rw [hg2]; simp [bk])
            have hIs : Is wF ⟨(f : Int), some ⟨B, 0, none⟩, (layL rows).base, j, a2, rows.map cmn, c2, a3, (layL rows).next, c3, a4, (layL rows).check, c4⟩ := by
              refine ⟨(hp.row.mod hMF (by simp; omega)).rd, (HRd2.out.mod hp.mod (fun p hpa hm => ?_)).mod hMF (fun p hpa hm => ?_), (Rd.own hp.own3).mod hMF (fun p hpa hm => ?_), (Rd.own hp.own4).mod hMF (fun p hpa hm => ?_)⟩
              · rw [hg2] at hpa; cases hpa; simp at hm; omega
              · rw [hg2] at hpa; cases hpa; simp at hm; omega
              · have := (hp.b3 p.block (by rw [hpa]; rfl)).1; simp at hm; omega
              · have := (hp.b4 p.block (by rw [hpa]; rfl)).1; simp at hm; omega
            have hcv : cv ⟨(f : Int), some ⟨B, 0, none⟩, (layL rows).base, j, a2, rows.map cmn, c2, a3, (layL rows).next, c3, a4, (layL rows).check, c4⟩ = .agg #[.int .i64 (f : Int), .slice (some ⟨B, 0, none⟩) j j, .slice a2 j c2, .slice a3 m c3, .slice a4 m c4] := by
              unfold cv cells
              simp only [hp.lb, hp.l3, hp.l4, List.length_map, HRn.out]
            have HwF := Lib.hid hwF
            have HFb := Lib.hid hFb
            have HFin := Lib.hid (And.intro hcv (And.intro hIs hbw))
            clear hp hly hRw hRx hRe hlts hz7 hzZ hwF hMF hFb hbw hg2 hb2 hIs hcv
            go_wp2
            rw [HwF.out]
            ((try simp only [Exit.inBlock, Exit.then]); refine bodyPost_ret (Kt.results_cell2_row rfl _ _ (R) 71 _ (0, 0) _ rfl (HFb.out) Tryd.underlying71 rfl ?hi1) rfl ?_; (case hi1 => kernel_rfl))
            exact ⟨⟨(f : Int), some ⟨B, 0, none⟩, (layL rows).base, j, a2, rows.map cmn, c2, a3, (layL rows).next, c3, a4, (layL rows).check, c4⟩, by rw [HFin.out.1]; rfl, rfl, rfl, rfl, rfl, rfl, HFin.out.2.1, HFin.out.2.2⟩
end Cb
end Go.Proofs.YteekonojmpihlaaDoor
