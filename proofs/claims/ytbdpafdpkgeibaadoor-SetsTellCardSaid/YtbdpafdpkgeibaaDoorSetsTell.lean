/- dofferlaw01.SetsTell returns true. Condition: the table of TrailingZeros64 reads as laid. -/
import Derived.Test.YtbdpafdpkgeibaaDoorSetsTell0
import Derived.BigQuiet
namespace Go.Proofs.YtbdpafdpkgeibaaDoor
open Go Go.RowKit Kt
namespace St
open Mk
set_option linter.unusedSimpArgs false
theorem str_keep {w : World} {a : Option Addr} {l : List UInt8} {n : Nat} (hn : l.length = n) (hr : Rd w a (u8s l)) (c : Nat) (W : World) (hb : Below w.heap.size w W) :
    (convert 45 9 (.slice a n c)).run Tryd.prog W = .ok (.string (Str l)) W := by
  subst hn
  exact str_run (P := Tryd.prog) (dst := 9) Num.elU8.ht Tryd.underlying5 Tryd.underlying9 (hr.keep hb) c 0
/-- The loop over the spans. -/
def TlR (w : World) (m : Nat) (i : Value) (W : World) : Prop := ∃ k : Nat, k ≤ m ∧ i = .int .i64 (k : Int) ∧ Below w.heap.size w W
set_option maxHeartbeats 8000000 in
set_option maxRecDepth 100000 in
theorem tell_c (ws : List Nat) (hw : IsSet ws (has ws)) (c : UInt8) (j : Int) (w : World) (hT : Bt.Tab w) : Calls Tryd.prog 9 #[sv ws, .int .u8 (c.toNat : Int), .int .i64 j] w fun e w' => e = .returned (.bool true) ∧ Below w.heap.size w w' := by
  have hc256 := c.toNat_lt
  generalize c.toNat = c at *
  have lst := fun W hT => list3_c ws _ hw W hT
  have rls := fun W => rlist3_c ws _ hw W
  have spn := fun W hT => spans3_c ws _ hw W hT
  have rsp := fun W => rspans3_c ws _ hw W
  have len := fun W => len_c ws _ hw W
  have emp := fun W => empty_c ws _ hw W
  have hs1 := fun W => has_c ws _ hw c hc256 W
  have hs2 := fun W => rhas_c ws _ hw c hc256 W
  have lea := fun W hT => least_c ws _ hw W hT
  have nth := fun W hT => nth_c ws _ hw j W hT
  have hL0 := bts_len ws
  have hL256 := all_256 hw.len
  have hemp : decide (all ws = []) = decide ((bts ws).length = 0) := by
    congr 1
    rw [bts_len, List.length_eq_zero_iff]
  rw [hemp] at emp
  rw [← hL0] at len hL256
  have hnb := fun k hk => nth_bts (ws := ws) hw.len k hk
  have hno := fun k (hk : (bts ws).length ≤ k) => nth_out (all ws) k (by rw [← hL0]; exact hk)
  have hng := nth_neg (all ws) j
  obtain ⟨hm256, hp256⟩ := sps_256 hw.len
  have hfa := flat_at (sps (all ws))
  have hfl := flat_len (sps (all ws))
  generalize has ws c = fc at *
  generalize nthOf (all ws) = F at *
  generalize sps (all ws) = acc at *
  generalize bts ws = L at *
  obtain ⟨n, hn⟩ : ∃ n, L.length = n := ⟨_, rfl⟩
  obtain ⟨m, hm⟩ : ∃ m, acc.length = m := ⟨_, rfl⟩
  rw [hn] at lst rls len emp hL256
  rw [hm] at spn rsp hm256 hfl
  have heb : ∀ b : Bool, (b != b) = false := fun b => by cases b <;> rfl
  obtain ⟨be, hbe⟩ : ∃ be, decide (n = 0) = be := ⟨_, rfl⟩
  have hbn : ((n : Int) == 0) = be := by rw [← hbe, Bool.eq_iff_iff]; simp
  rw [hbe] at emp
  have hwm : IntKind.i64.wrap (2 * (m : Int)) = 2 * (m : Int) := IntWalk.i64_in _ ⟨by omega, by omega⟩
  obtain ⟨x0, x1, x2, x3, rfl⟩ := four hw.len
  simp only [sv, vals, List.map_cons, List.map_nil] at lst rls spn rsp len emp hs1 hs2 lea nth ⊢
  have LST := Lib.hid lst
  have RLS := Lib.hid rls
  have SPN := Lib.hid spn
  have RSP := Lib.hid rsp
  have LEN := Lib.hid len
  have EMP := Lib.hid emp
  have HS1 := Lib.hid hs1
  have HS2 := Lib.hid hs2
  have LEA := Lib.hid lea
  have NTH := Lib.hid nth
  have Hnb := Lib.hid hnb
  have Hno := Lib.hid hno
  have Hng := Lib.hid hng
  have Hp := Lib.hid hp256
  have Hfa := Lib.hid hfa
  have Hfl := Lib.hid hfl
  have Hn := Lib.hid hn
  have Hm := Lib.hid hm
  have Hbn := Lib.hid hbn
  have Hwm := Lib.hid hwm
  have HT := Lib.hid hT
  have hS0 := heap_alloc_new w (.cells #[.int .u64 (x0 : Int), .int .u64 (x1 : Int), .int .u64 (x2 : Int), .int .u64 (x3 : Int)] 54)
  have hB0 := (Below.refl w.heap.size w).alloc (Nat.le_refl _) (.cells #[.int .u64 (x0 : Int), .int .u64 (x1 : Int), .int .u64 (x2 : Int), .int .u64 (x3 : Int)] 54)
  have HAl := Lib.hid (alive_c _ (HT.out.below hB0))
  have HS0 := Lib.hid hS0
  have HB0 := Lib.hid hB0
  clear lst rls spn rsp len emp hs1 hs2 lea nth hnb hno hng hp256 hfa hfl hn hm hbn hwm hT hS0 hB0 hw hL0 hemp hbe
  go_enter Tryd.func9, Tryd.ntmps9
  go_wp2_with fail
  refine HAl.out.mono ?_
  rintro e w1 ⟨rfl, hb1⟩
  have hS1 := (hb1.block _ (block_lt HS0.out)).trans HS0.out
  have HB1 := Lib.hid (HB0.out.trans (hb1.mono HB0.out.size))
  clear hb1 HS0 HB0 HAl
  have i0 := cell_block hS1 0
  have i1 := cell_block hS1 1
  have i2 := cell_block hS1 2
  have i3 := cell_block hS1 3
  simp at i0 i1 i2 i3
  have HS1b := Lib.hid hS1
  clear hS1
  go_wp2_with fail
  refine (RLS.out w1).mono ?_
  rintro e w2 ⟨a1, c1, rfl, hr2, hb2⟩
  have hS2 := (hb2.block _ (block_lt HS1b.out)).trans HS1b.out
  have HB2 := Lib.hid (HB1.out.trans (hb2.mono HB1.out.size))
  clear hb2 HS1b HB1 i0 i1 i2 i3
  have i0 := cell_block hS2 0
  have i1 := cell_block hS2 1
  have i2 := cell_block hS2 2
  have i3 := cell_block hS2 3
  simp at i0 i1 i2 i3
  have HS2b := Lib.hid hS2
  have HR2 := Lib.hid hr2
  clear hS2 hr2
  go_wp2_with fail
  refine (RSP.out w2).mono ?_
  rintro e w3 ⟨a2, c2, rfl, hr3, hb3⟩
  have hS3 := (hb3.block _ (block_lt HS2b.out)).trans HS2b.out
  have HB3 := Lib.hid (HB2.out.trans (hb3.mono HB2.out.size))
  have HR2' := Lib.hid (HR2.out.keep hb3)
  clear hb3 HS2b HB2 HR2 i0 i1 i2 i3
  have i0 := cell_block hS3 0
  have i1 := cell_block hS3 1
  have i2 := cell_block hS3 2
  have i3 := cell_block hS3 3
  simp at i0 i1 i2 i3
  have HS3b := Lib.hid hS3
  have HR3 := Lib.hid hr3
  have HSp := Lib.hid (SPN.out w3 (HT.out.below HB3.out))
  clear hS3 hr3
  go_wp2_with fail
  refine HSp.out.mono ?_
  rintro e w4 ⟨a3, c3, rfl, hr4, hb4⟩
  have hS4 := (hb4.block _ (block_lt HS3b.out)).trans HS3b.out
  have HB4 := Lib.hid (HB3.out.trans (hb4.mono HB3.out.size))
  have HRl := Lib.hid (HR2'.out.keep hb4)
  have HRe := Lib.hid (HR3.out.keep hb4)
  have HRp := Lib.hid hr4
  have sk : ∀ W, Below w4.heap.size w4 W → ((W.cell? ⟨w.heap.size, 0, none⟩ = some (.int .u64 (x0 : Int)) ∧ W.cell? ⟨w.heap.size, 1, none⟩ = some (.int .u64 (x1 : Int)) ∧ W.cell? ⟨w.heap.size, 2, none⟩ = some (.int .u64 (x2 : Int)) ∧ W.cell? ⟨w.heap.size, 3, none⟩ = some (.int .u64 (x3 : Int)))
      ∧ (convert 45 9 (.slice a1 n c1)).run Tryd.prog W = .ok (.string (Str L)) W) := by
    intro W hb
    have h1 := (hb.block _ (block_lt hS4)).trans hS4
    exact ⟨⟨cell_block h1 0, cell_block h1 1, cell_block h1 2, cell_block h1 3⟩, str_keep Hn.out HRl.out c1 W hb⟩
  have SK := Lib.hid sk
  have LS4 := Lib.hid fun W (hb : Below w4.heap.size w4 W) => LST.out W (HT.out.below (HB4.out.trans (hb.mono HB4.out.size)))
  have LE4 := Lib.hid fun W (hb : Below w4.heap.size w4 W) => LEA.out W (HT.out.below (HB4.out.trans (hb.mono HB4.out.size)))
  have NT4 := Lib.hid fun W (hb : Below w4.heap.size w4 W) => NTH.out W (HT.out.below (HB4.out.trans (hb.mono HB4.out.size)))
  have z0 : Below w4.heap.size w4 w4.drew := (Below.refl _ _).drew
  have zr : Below w4.heap.size w4 w4 := Below.refl _ _
  have hbn := Hbn.out
  have hwm := Hwm.out
  have hwc : IntKind.i64.wrap (c : Int) = (c : Int) := IntWalk.i64_in _ ⟨by omega, by omega⟩
  clear sk hS4 hb4 hr4 HS3b HB3 HR2' HR3 HSp i0 i1 i2 i3 HT LST LEA NTH Hbn Hwm
  go_wp2_with fail
  refine wp_region_noPanic ?_
  refine wp_region_held_drew (S := (fun W => (W.cell? ⟨w.heap.size, 0, none⟩ = some (.int .u64 (x0 : Int)) ∧ W.cell? ⟨w.heap.size, 1, none⟩ = some (.int .u64 (x1 : Int)) ∧ W.cell? ⟨w.heap.size, 2, none⟩ = some (.int .u64 (x2 : Int)) ∧ W.cell? ⟨w.heap.size, 3, none⟩ = some (.int .u64 (x3 : Int)))
      ∧ (convert 45 9 (.slice a1 n c1)).run Tryd.prog W = .ok (.string (Str L)) W)) (by kernel_rfl) (SK.out _ z0) (fun hHeld => ?_)
  (refine wpAnyH_take (i := 0) (v := ?v0) (by simp only [List.getElem?_toArray, List.getElem?_cons_succ, List.getElem?_cons_zero]; rfl) (by kernel_rfl) (by kernel_rfl) (by kernel_rfl) (fun _ _ _ h => False.elim h) (Or.inl ⟨by rfl, ?hy0⟩) (by assumption) ?rest0; (case hy0 => (intro w hSw; (try dsimp only at hSw); go_simp; (try with_reducible rfl))); (try simp only [Act.put, List.setIfInBounds_toArray, List.set_cons_zero, List.set_cons_succ]))
  (refine wpAnyH_take (i := 3) (v := ?v3) (by simp only [List.getElem?_toArray, List.getElem?_cons_succ, List.getElem?_cons_zero]; rfl) (by kernel_rfl) (by kernel_rfl) (by kernel_rfl) (fun _ _ _ h => False.elim h) (Or.inl ⟨by rfl, ?hy3⟩) (by assumption) ?rest3; (case hy3 => (intro w hSw; (try dsimp only at hSw); go_simp; (try with_reducible rfl))); (try simp only [Act.put, List.setIfInBounds_toArray, List.set_cons_zero, List.set_cons_succ]))
  (refine wpAnyH_take (i := 4) (v := ?v4) (by simp only [List.getElem?_toArray, List.getElem?_cons_succ, List.getElem?_cons_zero]; rfl) (by kernel_rfl) (by kernel_rfl) (by kernel_rfl) (fun _ _ _ h => False.elim h) (Or.inl ⟨by rfl, ?hy4⟩) (by assumption) ?rest4; (case hy4 => (intro w hSw; (try dsimp only at hSw); go_simp; (try with_reducible rfl))); (try simp only [Act.put, List.setIfInBounds_toArray, List.set_cons_zero, List.set_cons_succ]))
  (refine wpAnyH_ready (rs := [1]) (by kernel_rfl) (by simp) ?_; refine AllReadyH.cons (o := _) (by simp only [List.getElem?_toArray, List.getElem?_cons_succ, List.getElem?_cons_zero]; rfl) (fun K hK => ?_) AllReadyH.nil; go_simp; (refine (LS4.out _ z0).mono ?_; rintro e w5 ⟨la, lc, rfl, hlr, hb⟩; have z1 := Kt.chn hb z0; have cv7 := str_keep Hn.out hlr lc w5 (Below.refl _ _); clear hb); refine hK.out _ _ (by exact SK.out _ z1) (fun hHeld => ?_); clear hK K; (try simp only [Act.put, List.setIfInBounds_toArray, List.set_cons_zero, List.set_cons_succ]))
  (refine wpAnyH_ready (rs := [2]) (by kernel_rfl) (by simp) ?_; refine AllReadyH.cons (o := _) (by simp only [List.getElem?_toArray, List.getElem?_cons_succ, List.getElem?_cons_zero]; rfl) (fun K hK => ?_) AllReadyH.nil; go_simp; (skip); refine hK.out _ _ (by exact SK.out _ z1) (fun hHeld => ?_); clear hK K; (try simp only [Act.put, List.setIfInBounds_toArray, List.set_cons_zero, List.set_cons_succ]))
  clear cv7 hlr
  (refine wpAnyH_take (i := 5) (v := ?v5) (by simp only [List.getElem?_toArray, List.getElem?_cons_succ, List.getElem?_cons_zero]; rfl) (by kernel_rfl) (by kernel_rfl) (by kernel_rfl) (fun _ _ _ h => False.elim h) (Or.inl ⟨by rfl, ?hy5⟩) (by assumption) ?rest5; (case hy5 => (intro w hSw; (try dsimp only at hSw); go_simp; (try with_reducible rfl))); (try simp only [Act.put, List.setIfInBounds_toArray, List.set_cons_zero, List.set_cons_succ]))
  (refine wpAnyH_take (i := 6) (v := ?v6) (by simp only [List.getElem?_toArray, List.getElem?_cons_succ, List.getElem?_cons_zero]; rfl) (by kernel_rfl) (by kernel_rfl) (by kernel_rfl) (fun _ _ _ h => False.elim h) (Or.inl ⟨by rfl, ?hy6⟩) (by assumption) ?rest6; (case hy6 => (intro w hSw; (try dsimp only at hSw); go_simp; (try with_reducible rfl))); (try simp only [Act.put, List.setIfInBounds_toArray, List.set_cons_zero, List.set_cons_succ]))
  (refine wpAnyH_take (i := 7) (v := ?v7) (by simp only [List.getElem?_toArray, List.getElem?_cons_succ, List.getElem?_cons_zero]; rfl) (by kernel_rfl) (by kernel_rfl) (by kernel_rfl) (fun _ _ _ h => False.elim h) (Or.inl ⟨by rfl, ?hy7⟩) (by assumption) ?rest7; (case hy7 => (intro w hSw; (try dsimp only at hSw); go_simp; (try with_reducible rfl))); (try simp only [Act.put, List.setIfInBounds_toArray, List.set_cons_zero, List.set_cons_succ]))
  (refine wpAnyH_take (i := 9) (v := ?v9) (by simp only [List.getElem?_toArray, List.getElem?_cons_succ, List.getElem?_cons_zero]; rfl) (by kernel_rfl) (by kernel_rfl) (by kernel_rfl) (fun _ _ _ h => False.elim h) (Or.inl ⟨by rfl, ?hy9⟩) (by assumption) ?rest9; (case hy9 => (intro w hSw; (try dsimp only at hSw); go_simp; (try with_reducible rfl))); (try simp only [Act.put, List.setIfInBounds_toArray, List.set_cons_zero, List.set_cons_succ]))
  (refine wpAnyH_take (i := 10) (v := ?v10) (by simp only [List.getElem?_toArray, List.getElem?_cons_succ, List.getElem?_cons_zero]; rfl) (by kernel_rfl) (by kernel_rfl) (by kernel_rfl) (fun _ _ _ h => False.elim h) (Or.inl ⟨by rfl, ?hy10⟩) (by assumption) ?rest10; (case hy10 => (intro w hSw; (try dsimp only at hSw); go_simp; (try with_reducible rfl))); (try simp only [Act.put, List.setIfInBounds_toArray, List.set_cons_zero, List.set_cons_succ]))
  (refine wpAnyH_ready (rs := [8]) (by kernel_rfl) (by simp) ?_; refine AllReadyH.cons (o := _) (by simp only [List.getElem?_toArray, List.getElem?_cons_succ, List.getElem?_cons_zero]; rfl) (fun K hK => ?_) AllReadyH.nil; go_simp; (refine (LEN.out _).mono ?_; rintro e w6 ⟨rfl, hb⟩; have z2 := Kt.chn hb z1; clear hb); refine hK.out _ _ (by exact SK.out _ z2) (fun hHeld => ?_); clear hK K; (try simp only [Act.put, List.setIfInBounds_toArray, List.set_cons_zero, List.set_cons_succ]))
  (refine wpAnyH_take (i := 11) (v := ?v11) (by simp only [List.getElem?_toArray, List.getElem?_cons_succ, List.getElem?_cons_zero]; rfl) (by kernel_rfl) (by kernel_rfl) (by kernel_rfl) (fun _ _ _ h => False.elim h) (Or.inl ⟨by rfl, ?hy11⟩) (by assumption) ?rest11; (case hy11 => (intro w hSw; (try dsimp only at hSw); go_simp; (try with_reducible rfl))); (try simp only [Act.put, List.setIfInBounds_toArray, List.set_cons_zero, List.set_cons_succ]))
  (refine wpAnyH_take (i := 12) (v := ?v12) (by simp only [List.getElem?_toArray, List.getElem?_cons_succ, List.getElem?_cons_zero]; rfl) (by kernel_rfl) (by kernel_rfl) (by kernel_rfl) (fun _ _ _ h => False.elim h) (Or.inl ⟨by rfl, ?hy12⟩) (by assumption) ?rest12; (case hy12 => (intro w hSw; (try dsimp only at hSw); go_simp; (try with_reducible rfl))); (try simp only [Act.put, List.setIfInBounds_toArray, List.set_cons_zero, List.set_cons_succ]))
  (refine wpAnyH_take (i := 13) (v := ?v13) (by simp only [List.getElem?_toArray, List.getElem?_cons_succ, List.getElem?_cons_zero]; rfl) (by kernel_rfl) (by kernel_rfl) (by kernel_rfl) (fun _ _ _ h => False.elim h) (Or.inl ⟨by rfl, ?hy13⟩) (by assumption) ?rest13; (case hy13 => (intro w hSw; (try dsimp only at hSw); go_simp; (try with_reducible rfl))); (try simp only [Act.put, List.setIfInBounds_toArray, List.set_cons_zero, List.set_cons_succ]))
  (refine wpAnyH_take (i := 14) (v := ?v14) (by simp only [List.getElem?_toArray, List.getElem?_cons_succ, List.getElem?_cons_zero]; rfl) (by kernel_rfl) (by kernel_rfl) (by kernel_rfl) (fun _ _ _ h => False.elim h) (Or.inl ⟨by rfl, ?hy14⟩) (by assumption) ?rest14; (case hy14 => (intro w hSw; (try dsimp only at hSw); go_simp; (try with_reducible rfl))); (try simp only [Act.put, List.setIfInBounds_toArray, List.set_cons_zero, List.set_cons_succ]))
  (refine wpAnyH_take (i := 16) (v := ?v16) (by simp only [List.getElem?_toArray, List.getElem?_cons_succ, List.getElem?_cons_zero]; rfl) (by kernel_rfl) (by kernel_rfl) (by kernel_rfl) (fun _ _ _ h => False.elim h) (Or.inl ⟨by rfl, ?hy16⟩) (by assumption) ?rest16; (case hy16 => (intro w hSw; (try dsimp only at hSw); go_simp; (try with_reducible rfl))); (try simp only [Act.put, List.setIfInBounds_toArray, List.set_cons_zero, List.set_cons_succ]))
  (refine wpAnyH_take (i := 17) (v := ?v17) (by simp only [List.getElem?_toArray, List.getElem?_cons_succ, List.getElem?_cons_zero]; rfl) (by kernel_rfl) (by kernel_rfl) (by kernel_rfl) (fun _ _ _ h => False.elim h) (Or.inl ⟨by rfl, ?hy17⟩) (by assumption) ?rest17; (case hy17 => (intro w hSw; (try dsimp only at hSw); go_simp; (try with_reducible rfl))); (try simp only [Act.put, List.setIfInBounds_toArray, List.set_cons_zero, List.set_cons_succ]))
  (refine wpAnyH_take (i := 18) (v := ?v18) (by simp only [List.getElem?_toArray, List.getElem?_cons_succ, List.getElem?_cons_zero]; rfl) (by kernel_rfl) (by kernel_rfl) (by kernel_rfl) (fun _ _ _ h => False.elim h) (Or.inl ⟨by rfl, ?hy18⟩) (by assumption) ?rest18; (case hy18 => (intro w hSw; (try dsimp only at hSw); go_simp; (try with_reducible rfl))); (try simp only [Act.put, List.setIfInBounds_toArray, List.set_cons_zero, List.set_cons_succ]))
  (refine wpAnyH_ready (rs := [15]) (by kernel_rfl) (by simp) ?_; refine AllReadyH.cons (o := _) (by simp only [List.getElem?_toArray, List.getElem?_cons_succ, List.getElem?_cons_zero]; rfl) (fun K hK => ?_) AllReadyH.nil; go_simp; (refine (EMP.out _).mono ?_; rintro e w7 ⟨rfl, hb⟩; have z3 := Kt.chn hb z2; clear hb); refine hK.out _ _ (by exact SK.out _ z3) (fun hHeld => ?_); clear hK K; (try simp only [Act.put, List.setIfInBounds_toArray, List.set_cons_zero, List.set_cons_succ]))
  (refine wpAnyH_take (i := 19) (v := ?v19) (by simp only [List.getElem?_toArray, List.getElem?_cons_succ, List.getElem?_cons_zero]; rfl) (by kernel_rfl) (by kernel_rfl) (by kernel_rfl) (fun _ _ _ h => False.elim h) (Or.inl ⟨by rfl, ?hy19⟩) (by assumption) ?rest19; (case hy19 => (intro w hSw; (try dsimp only at hSw); go_simp; (try with_reducible rfl))); (try simp only [Act.put, List.setIfInBounds_toArray, List.set_cons_zero, List.set_cons_succ]))
  (refine wpAnyH_take (i := 20) (v := ?v20) (by simp only [List.getElem?_toArray, List.getElem?_cons_succ, List.getElem?_cons_zero]; rfl) (by kernel_rfl) (by kernel_rfl) (by kernel_rfl) (fun _ _ _ h => False.elim h) (Or.inl ⟨by rfl, ?hy20⟩) (by assumption) ?rest20; (case hy20 => (intro w hSw; (try dsimp only at hSw); go_simp; (try with_reducible rfl))); (try simp only [Act.put, List.setIfInBounds_toArray, List.set_cons_zero, List.set_cons_succ]))
  (refine wpAnyH_take (i := 21) (v := ?v21) (by simp only [List.getElem?_toArray, List.getElem?_cons_succ, List.getElem?_cons_zero]; rfl) (by kernel_rfl) (by kernel_rfl) (by kernel_rfl) (fun _ _ _ h => False.elim h) (Or.inl ⟨by rfl, ?hy21⟩) (by assumption) ?rest21; (case hy21 => (intro w hSw; (try dsimp only at hSw); go_simp; (try with_reducible rfl))); (try simp only [Act.put, List.setIfInBounds_toArray, List.set_cons_zero, List.set_cons_succ]))
  (refine wpAnyH_take (i := 22) (v := ?v22) (by simp only [List.getElem?_toArray, List.getElem?_cons_succ, List.getElem?_cons_zero]; rfl) (by kernel_rfl) (by kernel_rfl) (by kernel_rfl) (fun _ _ _ h => False.elim h) (Or.inl ⟨by rfl, ?hy22⟩) (by assumption) ?rest22; (case hy22 => (intro w hSw; (try dsimp only at hSw); go_simp; (try with_reducible rfl))); (try simp only [Act.put, List.setIfInBounds_toArray, List.set_cons_zero, List.set_cons_succ]))
  (refine wpAnyH_take (i := 23) (v := ?v23) (by simp only [List.getElem?_toArray, List.getElem?_cons_succ, List.getElem?_cons_zero]; rfl) (by kernel_rfl) (by kernel_rfl) (by kernel_rfl) (fun _ _ _ h => False.elim h) (Or.inl ⟨by rfl, ?hy23⟩) (by assumption) ?rest23; (case hy23 => (intro w hSw; (try dsimp only at hSw); go_simp; (try with_reducible rfl))); (try simp only [Act.put, List.setIfInBounds_toArray, List.set_cons_zero, List.set_cons_succ]))
  (refine wpAnyH_take (i := 25) (v := ?v25) (by simp only [List.getElem?_toArray, List.getElem?_cons_succ, List.getElem?_cons_zero]; rfl) (by kernel_rfl) (by kernel_rfl) (by kernel_rfl) (fun _ _ _ h => False.elim h) (Or.inl ⟨by rfl, ?hy25⟩) (by assumption) ?rest25; (case hy25 => (intro w hSw; (try dsimp only at hSw); go_simp; (try with_reducible rfl))); (try simp only [Act.put, List.setIfInBounds_toArray, List.set_cons_zero, List.set_cons_succ]))
  (refine wpAnyH_take (i := 26) (v := ?v26) (by simp only [List.getElem?_toArray, List.getElem?_cons_succ, List.getElem?_cons_zero]; rfl) (by kernel_rfl) (by kernel_rfl) (by kernel_rfl) (fun _ _ _ h => False.elim h) (Or.inl ⟨by rfl, ?hy26⟩) (by assumption) ?rest26; (case hy26 => (intro w hSw; (try dsimp only at hSw); go_simp; (try with_reducible rfl))); (try simp only [Act.put, List.setIfInBounds_toArray, List.set_cons_zero, List.set_cons_succ]))
  (refine wpAnyH_take (i := 27) (v := ?v27) (by simp only [List.getElem?_toArray, List.getElem?_cons_succ, List.getElem?_cons_zero]; rfl) (by kernel_rfl) (by kernel_rfl) (by kernel_rfl) (fun _ _ _ h => False.elim h) (Or.inl ⟨by rfl, ?hy27⟩) (by assumption) ?rest27; (case hy27 => (intro w hSw; (try dsimp only at hSw); go_simp; (try with_reducible rfl))); (try simp only [Act.put, List.setIfInBounds_toArray, List.set_cons_zero, List.set_cons_succ]))
  (refine wpAnyH_ready (rs := [24]) (by kernel_rfl) (by simp) ?_; refine AllReadyH.cons (o := _) (by simp only [List.getElem?_toArray, List.getElem?_cons_succ, List.getElem?_cons_zero]; rfl) (fun K hK => ?_) AllReadyH.nil; go_simp; (refine (HS1.out _).mono ?_; rintro e w8 ⟨rfl, hb⟩; have z4 := Kt.chn hb z3; clear hb); refine hK.out _ _ (by exact SK.out _ z4) (fun hHeld => ?_); clear hK K; (try simp only [Act.put, List.setIfInBounds_toArray, List.set_cons_zero, List.set_cons_succ]))
  (refine wpAnyH_ready (rs := [28]) (by kernel_rfl) (by simp) ?_; refine AllReadyH.cons (o := _) (by simp only [List.getElem?_toArray, List.getElem?_cons_succ, List.getElem?_cons_zero]; rfl) (fun K hK => ?_) AllReadyH.nil; go_simp; (refine (HS2.out _).mono ?_; rintro e w9 ⟨rfl, hb⟩; have z5 := Kt.chn hb z4; clear hb); refine hK.out _ _ (by exact SK.out _ z5) (fun hHeld => ?_); clear hK K; (try simp only [Act.put, List.setIfInBounds_toArray, List.set_cons_zero, List.set_cons_succ]))
  (refine wpAnyH_take (i := 29) (v := ?v29) (by simp only [List.getElem?_toArray, List.getElem?_cons_succ, List.getElem?_cons_zero]; rfl) (by kernel_rfl) (by kernel_rfl) (by kernel_rfl) (fun _ _ _ h => False.elim h) (Or.inl ⟨by rfl, ?hy29⟩) (by assumption) ?rest29; (case hy29 => (intro w hSw; (try dsimp only at hSw); go_simp; (try with_reducible rfl))); (try simp only [Act.put, List.setIfInBounds_toArray, List.set_cons_zero, List.set_cons_succ]))
  (refine wpAnyH_take (i := 30) (v := ?v30) (by simp only [List.getElem?_toArray, List.getElem?_cons_succ, List.getElem?_cons_zero]; rfl) (by kernel_rfl) (by kernel_rfl) (by kernel_rfl) (fun _ _ _ h => False.elim h) (Or.inl ⟨by rfl, ?hy30⟩) (by assumption) ?rest30; (case hy30 => (intro w hSw; (try dsimp only at hSw); go_simp; (try with_reducible rfl))); (try simp only [Act.put, List.setIfInBounds_toArray, List.set_cons_zero, List.set_cons_succ]))
  (refine wpAnyH_take (i := 31) (v := ?v31) (by simp only [List.getElem?_toArray, List.getElem?_cons_succ, List.getElem?_cons_zero]; rfl) (by kernel_rfl) (by kernel_rfl) (by kernel_rfl) (fun _ _ _ h => False.elim h) (Or.inl ⟨by rfl, ?hy31⟩) (by assumption) ?rest31; (case hy31 => (intro w hSw; (try dsimp only at hSw); go_simp; (try with_reducible rfl))); (try simp only [Act.put, List.setIfInBounds_toArray, List.set_cons_zero, List.set_cons_succ]))
  (refine wpAnyH_take (i := 32) (v := ?v32) (by simp only [List.getElem?_toArray, List.getElem?_cons_succ, List.getElem?_cons_zero]; rfl) (by kernel_rfl) (by kernel_rfl) (by kernel_rfl) (fun _ _ _ h => False.elim h) (Or.inl ⟨by rfl, ?hy32⟩) (by assumption) ?rest32; (case hy32 => (intro w hSw; (try dsimp only at hSw); go_simp; (try with_reducible rfl))); (try simp only [Act.put, List.setIfInBounds_toArray, List.set_cons_zero, List.set_cons_succ]))
  (refine wpAnyH_take (i := 33) (v := ?v33) (by simp only [List.getElem?_toArray, List.getElem?_cons_succ, List.getElem?_cons_zero]; rfl) (by kernel_rfl) (by kernel_rfl) (by kernel_rfl) (fun _ _ _ h => False.elim h) (Or.inl ⟨by rfl, ?hy33⟩) (by assumption) ?rest33; (case hy33 => (intro w hSw; (try dsimp only at hSw); go_simp; (try with_reducible rfl))); (try simp only [Act.put, List.setIfInBounds_toArray, List.set_cons_zero, List.set_cons_succ]))
  (refine wpAnyH_take (i := 34) (v := ?v34) (by simp only [List.getElem?_toArray, List.getElem?_cons_succ, List.getElem?_cons_zero]; rfl) (by kernel_rfl) (by kernel_rfl) (by kernel_rfl) (fun _ _ _ h => False.elim h) (Or.inl ⟨by rfl, ?hy34⟩) (by assumption) ?rest34; (case hy34 => (intro w hSw; (try dsimp only at hSw); go_simp; (try with_reducible rfl))); (try simp only [Act.put, List.setIfInBounds_toArray, List.set_cons_zero, List.set_cons_succ]))
  (refine wpAnyH_take (i := 35) (v := ?v35) (by simp only [List.getElem?_toArray, List.getElem?_cons_succ, List.getElem?_cons_zero]; rfl) (by kernel_rfl) (by kernel_rfl) (by kernel_rfl) (fun _ _ _ h => False.elim h) (Or.inl ⟨by rfl, ?hy35⟩) (by assumption) ?rest35; (case hy35 => (intro w hSw; (try dsimp only at hSw); go_simp; (try with_reducible rfl))); (try simp only [Act.put, List.setIfInBounds_toArray, List.set_cons_zero, List.set_cons_succ]))
  (refine wpAnyH_take (i := 36) (v := ?v36) (by simp only [List.getElem?_toArray, List.getElem?_cons_succ, List.getElem?_cons_zero]; rfl) (by kernel_rfl) (by kernel_rfl) (by kernel_rfl) (fun _ _ _ h => False.elim h) (Or.inl ⟨by rfl, ?hy36⟩) (by assumption) ?rest36; (case hy36 => (intro w hSw; (try dsimp only at hSw); go_simp; (try with_reducible rfl))); (try simp only [Act.put, List.setIfInBounds_toArray, List.set_cons_zero, List.set_cons_succ]))
  (refine wpAnyH_take (i := 37) (v := ?v37) (by simp only [List.getElem?_toArray, List.getElem?_cons_succ, List.getElem?_cons_zero]; rfl) (by kernel_rfl) (by kernel_rfl) (by kernel_rfl) (fun _ _ _ h => False.elim h) (Or.inl ⟨by rfl, ?hy37⟩) (by assumption) ?rest37; (case hy37 => (intro w hSw; (try dsimp only at hSw); go_simp; (try with_reducible rfl))); (try simp only [Act.put, List.setIfInBounds_toArray, List.set_cons_zero, List.set_cons_succ]))
  (refine wpAnyH_take (i := 38) (v := ?v38) (by simp only [List.getElem?_toArray, List.getElem?_cons_succ, List.getElem?_cons_zero]; rfl) (by kernel_rfl) (by kernel_rfl) (by kernel_rfl) (fun _ _ _ h => False.elim h) (Or.inl ⟨by rfl, ?hy38⟩) (by assumption) ?rest38; (case hy38 => (intro w hSw; (try dsimp only at hSw); go_simp; (try with_reducible rfl))); (try simp only [Act.put, List.setIfInBounds_toArray, List.set_cons_zero, List.set_cons_succ]))
  refine wpAnyH_done (by kernel_rfl) ?_ _
  refine NoPanic.normal ?_
  have zz := z5
  clear z1 z2 z3 z4 z5
  have hz7 := zz
  clear hwc hwm hbn heb
  go_wp2_with fail
  go_loopw [10, 11, 63] (fun _ _ i W => TlR w4 m i W) (fun _ _ i _ => m - (intOf i).toNat)
  case atStart => exact ⟨0, Nat.zero_le _, rfl, hz7⟩
  case round =>
    clear hz7
    obtain ⟨k, hk, rfl, hB⟩ := hrel
    by_cases hlt : k < m
    · have hka : k < acc.length := by rw [Hm.out]; exact hlt
      obtain ⟨bb, off, ha, hc⟩ := Rd.struct 2 (show Rd wr a3 (acc.flatMap fun p => [.int .u8 ((p.1 : Nat) : Int), .int .u8 ((p.2 : Nat) : Int)]) from HRp.out.keep hB) (fun _ _ => rfl) k hka (by omega)
      subst ha
      have d0 := hc 0 _ rfl (by omega)
      have d1 := hc 1 _ rfl (by omega)
      rw [Nat.add_zero] at d0
      rw [← Nat.add_assoc] at d1
      obtain ⟨hl1, hl2⟩ := Hp.out _ (List.getElem_mem hka)
      obtain ⟨hf1, hf2⟩ := Hfa.out k hka
      generalize acc[k].1 = lo at *
      generalize acc[k].2 = hi at *
      have hre := HRe.out.keep hB
      obtain ⟨eb, eo, ea, e1⟩ := hre (2 * k) (k64 lo) (by rw [List.getElem?_map, hf1]; rfl)
      obtain ⟨eb', eo', ea', e2⟩ := hre (2 * k + 1) (k64 hi) (by rw [List.getElem?_map, hf2]; rfl)
      subst ea
      simp only [Option.some.injEq, Addr.mk.injEq, and_true] at ea'
      obtain ⟨rfl, rfl⟩ := ea'
      have hw1 : IntKind.i64.wrap (2 * (k : Int)) = 2 * (k : Int) := IntWalk.i64_in _ ⟨by omega, by omega⟩
      have hw2 : IntKind.i64.wrap (2 * (k : Int) + 1) = 2 * (k : Int) + 1 := IntWalk.i64_in _ ⟨by omega, by omega⟩
      have hw3 : IntKind.i64.wrap (lo : Int) = (lo : Int) := IntWalk.i64_in _ ⟨by omega, by omega⟩
      have hw4 : IntKind.i64.wrap (hi : Int) = (hi : Int) := IntWalk.i64_in _ ⟨by omega, by omega⟩
      have ht1 : (2 * (k : Int)).toNat = 2 * k := by omega
      have ht2 : (2 * (k : Int) + 1).toNat = 2 * k + 1 := by omega
      have hi1 : (2 * (k : Int)) < 2 * (m : Int) := by omega
      have hi2 : (2 * (k : Int) + 1) < 2 * (m : Int) := by omega
      have hi3 : 0 ≤ (2 * (k : Int)) := by omega
      have hi4 : 0 ≤ (2 * (k : Int) + 1) := by omega
      have hel := lt_of_cell e1
      unfold k64 at e1 e2
      have HB := Lib.hid hB
      clear hB hc hre hf1 hf2
      go_wp2
      go_quiet (fail)
      go_wp2
      go_roundw
      case rel => exact ⟨k + 1, hlt, by go_num, below_drewN (HB.out.alloc HB.out.size _) _⟩
      case measure => simp [intOf]; omega
    · obtain rfl : k = m := by omega
      have HB := Lib.hid hB
      have HRl2 := Lib.hid (HRl.out.keep hB)
      have zr2 := hB
      have z02 := hB.drew
      clear hB z0 zr
      go_upto_if 92 with (fail)
      go_cut [12] (fun a W => a = .int .i64 (F 0) ∧ W = wr)
      case first =>
        by_cases h0 : n = 0
        · have hF : F 0 = -1 := Hno.out 0 (by rw [Hn.out]; omega)
          have HF := Lib.hid hF
          have hd : decide (0 < (n : Int)) = false := by simp; omega
          have hd' : decide (0 < n) = false := by simp; omega
          have hn0 : ¬ 0 < n := by omega
          clear hF h0
          go_wp2
          go_meet
          case rel => exact ⟨by rw [HF.out], rfl⟩
        · have hL0 : 0 < L.length := by rw [Hn.out]; omega
          obtain ⟨lb, lo, la, lc⟩ := HRl2.out.u8 0 hL0
          subst la
          rw [Nat.add_zero] at lc
          have HF := Lib.hid (Hnb.out 0 hL0)
          have hx := L[0].toNat_lt
          generalize L[0].toNat = x at *
          have hd : decide (0 < (n : Int)) = true := by simp; omega
          have hwx : IntKind.i64.wrap (x : Int) = (x : Int) := IntWalk.i64_in _ ⟨by omega, by omega⟩
          have hn0 : 0 < n := by omega
          clear h0 hL0
          go_wp2
          go_meet
          case rel => exact ⟨by rw [← HF.out]; rfl, rfl⟩
      case rest =>
        obtain ⟨rfl, rfl⟩ := hcut
        clear z02
        go_upto_region 17 with (fail)
        by_cases hj : j < 0
        · have hd : decide (0 ≤ j) = false := by simp; omega
          have NT5 := NT4.out
          rw [Hng.out hj] at NT5
          have NT5 := Lib.hid NT5
          clear hj
          obtain ⟨⟨i0, i1, i2, i3⟩, _⟩ := SK.out _ zr2
          have HL := Lib.hid (LE4.out _ zr2)
          go_wp2_with fail
          refine HL.out.mono ?_
          rintro e w5 ⟨rfl, hb5⟩
          have z5 := Kt.chn hb5 zr2
          clear i0 i1 i2 i3
          obtain ⟨⟨i0, i1, i2, i3⟩, _⟩ := SK.out _ z5
          have HN := Lib.hid (NT5.out _ z5)
          have HZ := Lib.hid z5
          clear hb5 HL z5
          go_wp2_with fail
          refine HN.out.mono ?_
          rintro e w6 ⟨rfl, hb6⟩
          have z6 := Kt.chn hb6 HZ.out
          go_wp2
          go_ret
          exact ⟨by first | rfl | simp, HB4.out.trans (z6.mono HB4.out.size)⟩

        · obtain ⟨q, rfl⟩ : ∃ q : Nat, j = (q : Int) := ⟨j.toNat, by omega⟩
          have hd : decide (0 ≤ (q : Int)) = true := by simp
          by_cases hq : q < n
          · have hqL : q < L.length := by rw [Hn.out]; omega
            have hd2 : decide ((q : Int) < (n : Int)) = true := by simp; omega
            obtain ⟨lb, lo, la, lc⟩ := HRl2.out.u8 q hqL
            subst la
            have NT5 := NT4.out
            rw [Hnb.out q hqL] at NT5
            have hx := L[q].toNat_lt
            generalize L[q].toNat = x at *
            have hwx : IntKind.i64.wrap (x : Int) = (x : Int) := IntWalk.i64_in _ ⟨by omega, by omega⟩
            have NT5 := Lib.hid NT5
            clear hj
            obtain ⟨⟨i0, i1, i2, i3⟩, _⟩ := SK.out _ zr2
            have HL := Lib.hid (LE4.out _ zr2)
            go_wp2_with fail
            refine HL.out.mono ?_
            rintro e w5 ⟨rfl, hb5⟩
            have z5 := Kt.chn hb5 zr2
            clear i0 i1 i2 i3
            obtain ⟨⟨i0, i1, i2, i3⟩, _⟩ := SK.out _ z5
            have HN := Lib.hid (NT5.out _ z5)
            have HZ := Lib.hid z5
            clear hb5 HL z5
            go_wp2_with fail
            refine HN.out.mono ?_
            rintro e w6 ⟨rfl, hb6⟩
            have z6 := Kt.chn hb6 HZ.out
            go_wp2
            go_ret
            exact ⟨by first | rfl | simp, HB4.out.trans (z6.mono HB4.out.size)⟩

          · have hd2 : decide ((q : Int) < (n : Int)) = false := by simp; omega
            have NT5 := NT4.out
            rw [Hno.out q (by rw [Hn.out]; omega)] at NT5
            have NT5 := Lib.hid NT5
            clear hj
            obtain ⟨⟨i0, i1, i2, i3⟩, _⟩ := SK.out _ zr2
            have HL := Lib.hid (LE4.out _ zr2)
            go_wp2_with fail
            refine HL.out.mono ?_
            rintro e w5 ⟨rfl, hb5⟩
            have z5 := Kt.chn hb5 zr2
            clear i0 i1 i2 i3
            obtain ⟨⟨i0, i1, i2, i3⟩, _⟩ := SK.out _ z5
            have HN := Lib.hid (NT5.out _ z5)
            have HZ := Lib.hid z5
            clear hb5 HL z5
            go_wp2_with fail
            refine HN.out.mono ?_
            rintro e w6 ⟨rfl, hb6⟩
            have z6 := Kt.chn hb6 HZ.out
            go_wp2
            go_ret
            exact ⟨by first | rfl | simp, HB4.out.trans (z6.mono HB4.out.size)⟩

end St
end Go.Proofs.YtbdpafdpkgeibaaDoor
