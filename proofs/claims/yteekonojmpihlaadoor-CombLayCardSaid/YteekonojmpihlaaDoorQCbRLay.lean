/- dofferref23: Lay. -/
import Derived.Test.YteekonojmpihlaaDoorQCbRPut
import Derived.Test.YteekonojmpihlaaDoorQCbRCom
import Derived.Test.YteekonojmpihlaaDoorQCbLay
namespace Go.Proofs.YteekonojmpihlaaDoor
namespace Kt
end Kt
open Go Go.RowKit Kt
namespace Cb
theorem rx_i64 {W : World} {g T cap : Nat} {l : List Int} (h : Rx W g T cap (i64s l)) (i : Nat) (hi : i < l.length) : W.cell? ⟨g, i, none⟩ = some (.int .i64 (l.getD i 0)) := by
  obtain ⟨b, o, ha, hc⟩ := rd_i64 h.rd i hi
  cases ha
  simpa using hc
theorem getD_map_cmn {rows : List (List Int)} {i : Nat} (h : i < rows.length) : (rows.map cmn).getD i 0 = cmn (rows.getD i []) := by
  rw [List.getD_eq_getElem?_getD, List.getElem?_map, List.getD_eq_getElem?_getD, List.getElem?_eq_getElem h]
  rfl
theorem cellL_box' {W : World} {C n T : Nat} {v0 v1 v2 v3 : Value} {a : Option Addr} {k : Nat} (h : W.heap[C]? = some (.cells #[v0, v1, v2, v3, .slice a n k] T (0, 0))) : W.cell? ⟨C, 4, none⟩ = some (.slice a n k) := (box5 h).2.2.2.2
def boolN : Value → Nat
  | .bool true => 1
  | _ => 0
theorem clash_lt {ck row : List Int} {b q : Nat} (h : clashP ck row b q = true) : b < ck.length := by
  unfold clashP at h
  rw [List.any_eq_true] at h
  obtain ⟨p, _, h2⟩ := h
  simp only [clash1, Bool.and_eq_true, decide_eq_true_eq] at h2
  omega
theorem base_of_clash {ck row : List Int} {b : Nat} (hck : ∀ t, t < ck.length → ck.getD t 0 = -1 ∨ 0 ≤ ck.getD t 0) (h : clashP ck row b row.length = false) (hl : ∀ q, q < b → clashP ck row q row.length = true) : baseOf ck (ownL row) = b :=
  baseOf_spec (by rw [clash_fits hck, h]; rfl) fun q hq => by rw [clash_fits hck, hl q hq]; rfl
set_option maxRecDepth 100000 in
set_option maxHeartbeats 8000000 in
theorem rlay_c (ra : Option Addr) (n rc : Nat) (L0 : List IRow) (rows : List (List Int)) (hL : L0.map (·.l) = rows) (hn : L0.length = n) (hy : layable rows = true) (w : World) (hr : Rd w ra (L0.map IRow.v)) (hok : ∀ r ∈ L0, r.ok w) :
    Calls Tryd.prog 44 #[.slice ra n rc] w fun e w' => ∃ c : Cs, e = .returned (cv c) ∧ Laid rows c ∧ Is w' c ∧ Below w.heap.size w w' := by
  have hrn : rows.length = n := by rw [← hL, List.length_map]; exact hn
  have hlo := lyF_of hy
  obtain ⟨f, hf⟩ : ∃ f, (rows.getD 0 []).length = f := ⟨_, rfl⟩
  rw [hf] at hlo
  have hN : n ≤ 200 := by have := hlo.many; omega
  have hn1 : 0 < n := by have := hlo.many; omega
  obtain ⟨W1, hW1⟩ : ∃ W1, w.alloc (.cells #[.int .i64 0, .slice none 0 0, .slice none 0 0, .slice none 0 0, .slice none 0 0] 82 (0, 0)) = W1 := ⟨_, rfl⟩
  have b1 : Below w.heap.size w W1 := by rw [← hW1]; exact (Below.refl _ _).alloc (Nat.le_refl _) _
  have s1 : W1.heap[w.heap.size]? = some (.cells #[.int .i64 0, .slice none 0 0, .slice none 0 0, .slice none 0 0, .slice none 0 0] 82 (0, 0)) := by rw [← hW1]; exact heap_alloc_new _ _
  obtain ⟨b, o, ha, hj0⟩ := hr.map_at 0 (by omega)
  clear hj0
  subst ha
  -- the rows of the argument, at every later world
  have hrowk : ∀ k, k < n → ∃ rk : IRow, rows.getD k [] = rk.l ∧ rk.l.length = f ∧ rk.l ≠ [] ∧ (∀ x ∈ rk.l, 0 ≤ x ∧ x < (n : Int)) ∧ rows[k]? = some rk.l ∧ ∀ V, Below w.heap.size w V → V.cell? ⟨b, o + k, none⟩ = some (.slice rk.a f rk.cap) ∧ Rd V rk.a (i64s rk.l) := fun k hk => by
    have hkL : k < L0.length := by omega
    have hg : rows[k]? = some L0[k].l := by rw [← hL, List.getElem?_map, List.getElem?_eq_getElem hkL]; rfl
    have hm : L0[k].l ∈ rows := by rw [← hL]; exact List.mem_map_of_mem (List.getElem_mem hkL)
    have hl := hlo.len _ hm
    refine ⟨L0[k], by rw [List.getD_eq_getElem?_getD, hg]; rfl, hl, fun e => ?_, fun x hx => ?_, hg, fun V hV => ?_⟩
    · rw [e] at hl
      have := hlo.wide
      simp at hl
      omega
    · have := hlo.num _ hm x hx
      omega
    · obtain ⟨b', o', ha', hc'⟩ := (hr.keep hV).map_at k hkL
      cases ha'
      refine ⟨?_, ((hok _ (List.getElem_mem hkL)).keep hV).rd⟩
      rw [hc']
      unfold IRow.v
      rw [hl]
  obtain ⟨r0, _, _, _, _, _, h0V⟩ := hrowk 0 (by omega)
  have hc0 := (h0V W1 b1).1
  rw [Nat.add_zero] at hc0
  generalize r0.a = a0 at *
  generalize r0.cap = cp0 at *
  have hmk := mk_int n hN
  have HW1 := Lib.hid hW1
  have HB1 := Lib.hid b1
  have HS1 := Lib.hid s1
  have HRow := Lib.hid hrowk
  have HRn := Lib.hid hrn
  have HLo := Lib.hid hlo
  have hni : (0 : Int) < (n : Int) := by omega
  obtain ⟨R, hR⟩ : ∃ R, w.heap.size = R := ⟨_, rfl⟩
  have HR := Lib.hid hR
  clear hW1 b1 s1 hL hn hrn hlo hf hy hr hok hrowk h0V
  go_enter Tryd.func44, Tryd.ntmps44
  go_upto_region 1 with (fail)
  rw [HW1.out]
  try rw [HR.out]
  clear hR
  go_upto_region 2 with (fail)
  go_cut [4, 23, 24] (fun p4 _ _ V => ∃ C B : Nat, p4 = .pointer (some ⟨C, 0, none⟩) ∧ V.heap[C]? = some (.cells #[.int .i64 (f : Int), .slice (some ⟨B, 0, none⟩) n n, .slice none 0 0, .slice none 0 0, .slice none 0 0] 82 (0, 0)) ∧ Rx V B 3 n (i64s (List.replicate n 0)) ∧ Below W1.heap.size W1 V ∧ W1.heap.size ≤ C ∧ W1.heap.size ≤ B ∧ B ≠ C)
  case first =>
    have SK : Hid (∀ V, Below W1.heap.size W1 V → V.cell? ⟨b, o, none⟩ = some (.slice a0 f cp0)) := Lib.hid (fun V hb => (hb.cell (p := ⟨b, o, none⟩) (lt_of_cell hc0)).trans hc0)
    refine wp_region_noPanic ?_
    refine wp_region_held_drew (S := fun V => V.cell? ⟨b, o, none⟩ = some (.slice a0 f cp0)) (by kernel_rfl) (SK.out _ (Below.refl _ _).drew) (fun hHeld => ?_)
    (refine wpAnyH_take (i := 0) (v := ?v0n1) (by simp only [List.getElem?_toArray, List.getElem?_cons_succ, List.getElem?_cons_zero]; rfl) (by kernel_rfl) (by kernel_rfl) (by kernel_rfl) (fun _ _ _ h => False.elim h) (Or.inl ⟨by rfl, ?hy0n1⟩) (by assumption) ?rest0n1; (case hy0n1 => (intro w hSw; (try dsimp only at hSw); go_simp; (try with_reducible rfl))); (try simp only [Act.put, List.setIfInBounds_toArray, List.set_cons_zero, List.set_cons_succ]))
    (refine wpAnyH_take (i := 4) (v := ?v4n2) (by simp only [List.getElem?_toArray, List.getElem?_cons_succ, List.getElem?_cons_zero]; rfl) (by kernel_rfl) (by kernel_rfl) (by kernel_rfl) (fun _ _ _ h => False.elim h) (Or.inl ⟨by rfl, ?hy4n2⟩) (by assumption) ?rest4n2; (case hy4n2 => (intro w hSw; (try dsimp only at hSw); go_simp; (try with_reducible rfl))); (try simp only [Act.put, List.setIfInBounds_toArray, List.set_cons_zero, List.set_cons_succ]))
    (refine wpAnyH_take (i := 1) (v := ?v1n3) (by simp only [List.getElem?_toArray, List.getElem?_cons_succ, List.getElem?_cons_zero]; rfl) (by kernel_rfl) (by kernel_rfl) (by kernel_rfl) (fun _ _ _ h => False.elim h) (Or.inl ⟨by rfl, ?hy1n3⟩) (by assumption) ?rest1n3; (case hy1n3 => (intro w hSw; (try dsimp only at hSw); go_simp; (try with_reducible rfl))); (try simp only [Act.put, List.setIfInBounds_toArray, List.set_cons_zero, List.set_cons_succ]))
    (refine wpAnyH_take (i := 2) (v := ?v2n4) (by simp only [List.getElem?_toArray, List.getElem?_cons_succ, List.getElem?_cons_zero]; rfl) (by kernel_rfl) (by kernel_rfl) (by kernel_rfl) (fun _ _ _ h => False.elim h) (Or.inl ⟨by rfl, ?hy2n4⟩) (by assumption) ?rest2n4; (case hy2n4 => (intro w hSw; (try dsimp only at hSw); go_simp; (try with_reducible rfl))); (try simp only [Act.put, List.setIfInBounds_toArray, List.set_cons_zero, List.set_cons_succ]))
    (refine wpAnyH_take (i := 3) (v := ?v3n5) (by simp only [List.getElem?_toArray, List.getElem?_cons_succ, List.getElem?_cons_zero]; rfl) (by kernel_rfl) (by kernel_rfl) (by kernel_rfl) (fun _ _ _ h => False.elim h) (Or.inl ⟨by rfl, ?hy3n5⟩) (by assumption) ?rest3n5; (case hy3n5 => (intro w hSw; (try dsimp only at hSw); go_simp; (try with_reducible rfl))); (try simp only [Act.put, List.setIfInBounds_toArray, List.set_cons_zero, List.set_cons_succ]))
    refine wpAnyH_ready (rs := [5, 7]) (by kernel_rfl) (by simp) ?_
    refine AllReadyH.cons (o := _) (by simp only [List.getElem?_toArray, List.getElem?_cons_succ, List.getElem?_cons_zero]; rfl) (fun K hK => ?_) ?_
    · (go_simp; (skip); refine hK.out _ _ (by exact SK.out _ (((Below.refl _ _).alloc (Nat.le_refl _) _).drew)) (fun hHeld => ?_); clear hK K; (try simp only [Act.put, List.setIfInBounds_toArray, List.set_cons_zero, List.set_cons_succ]))
      (refine wpAnyH_take (i := 6) (v := ?v6n6) (by simp only [List.getElem?_toArray, List.getElem?_cons_succ, List.getElem?_cons_zero]; rfl) (by kernel_rfl) (by kernel_rfl) (by kernel_rfl) (fun _ _ _ h => False.elim h) (Or.inl ⟨by rfl, ?hy6n6⟩) (by assumption) ?rest6n6; (case hy6n6 => (intro w hSw; (try dsimp only at hSw); go_simp; (try with_reducible rfl))); (try simp only [Act.put, List.setIfInBounds_toArray, List.set_cons_zero, List.set_cons_succ]))
      (refine wpAnyH_ready (rs := [7]) (by kernel_rfl) (by simp) ?_; refine AllReadyH.cons (o := _) (by simp only [List.getElem?_toArray, List.getElem?_cons_succ, List.getElem?_cons_zero]; rfl) (fun K hK => ?_) AllReadyH.nil; go_simp; (skip); refine hK.out _ _ (by exact SK.out _ ((((Below.refl _ _).alloc (Nat.le_refl _) _).alloc (by simp) _).drew)) (fun hHeld => ?_); clear hK K; (try simp only [Act.put, List.setIfInBounds_toArray, List.set_cons_zero, List.set_cons_succ]))
      (refine wpAnyH_ready (rs := [8]) (by kernel_rfl) (by simp) ?_; refine AllReadyH.cons (o := _) (by simp only [List.getElem?_toArray, List.getElem?_cons_succ, List.getElem?_cons_zero]; rfl) (fun K hK => ?_) AllReadyH.nil; go_simp; (skip); refine hK.out _ _ (by exact SK.out _ ((((Below.refl _ _).alloc (Nat.le_refl _) _).alloc (by simp) _).drew)) (fun hHeld => ?_); clear hK K; (try simp only [Act.put, List.setIfInBounds_toArray, List.set_cons_zero, List.set_cons_succ]))
      refine wpAnyH_done (by kernel_rfl) ?_ _
      refine NoPanic.normal ?_
      go_wp2
      go_meet
      exact ⟨W1.heap.size + 1, W1.heap.size, rfl, by
        have h := heap_alloc_new (W1.alloc (.cells (i64s (List.replicate n 0)).toArray 3)) (.cells #[.int .i64 (f : Int), .slice (some ⟨W1.heap.size, 0, none⟩) n n, .slice none 0 0, .slice none 0 0, .slice none 0 0] 82 (0, 0))
        rw [World.size_alloc] at h
        exact h, ((rx_zeros W1 n).alloc _).drew, (((Below.refl _ _).alloc (Nat.le_refl _) _).alloc (by simp) _).drew, by omega, Nat.le_refl _, by omega⟩
    · refine AllReadyH.cons (o := _) (by simp only [List.getElem?_toArray, List.getElem?_cons_succ, List.getElem?_cons_zero]; rfl) (fun K hK => ?_) AllReadyH.nil
      (go_simp; (skip); refine hK.out _ _ (by exact SK.out _ (((Below.refl _ _).alloc (Nat.le_refl _) _).drew)) (fun hHeld => ?_); clear hK K; (try simp only [Act.put, List.setIfInBounds_toArray, List.set_cons_zero, List.set_cons_succ]))
      (refine wpAnyH_ready (rs := [5]) (by kernel_rfl) (by simp) ?_; refine AllReadyH.cons (o := _) (by simp only [List.getElem?_toArray, List.getElem?_cons_succ, List.getElem?_cons_zero]; rfl) (fun K hK => ?_) AllReadyH.nil; go_simp; (skip); refine hK.out _ _ (by exact SK.out _ ((((Below.refl _ _).alloc (Nat.le_refl _) _).alloc (by simp) _).drew)) (fun hHeld => ?_); clear hK K; (try simp only [Act.put, List.setIfInBounds_toArray, List.set_cons_zero, List.set_cons_succ]))
      (refine wpAnyH_take (i := 6) (v := ?v6n7) (by simp only [List.getElem?_toArray, List.getElem?_cons_succ, List.getElem?_cons_zero]; rfl) (by kernel_rfl) (by kernel_rfl) (by kernel_rfl) (fun _ _ _ h => False.elim h) (Or.inl ⟨by rfl, ?hy6n7⟩) (by assumption) ?rest6n7; (case hy6n7 => (intro w hSw; (try dsimp only at hSw); go_simp; (try with_reducible rfl))); (try simp only [Act.put, List.setIfInBounds_toArray, List.set_cons_zero, List.set_cons_succ]))
      (refine wpAnyH_ready (rs := [8]) (by kernel_rfl) (by simp) ?_; refine AllReadyH.cons (o := _) (by simp only [List.getElem?_toArray, List.getElem?_cons_succ, List.getElem?_cons_zero]; rfl) (fun K hK => ?_) AllReadyH.nil; go_simp; (skip); refine hK.out _ _ (by exact SK.out _ ((((Below.refl _ _).alloc (Nat.le_refl _) _).alloc (by simp) _).drew)) (fun hHeld => ?_); clear hK K; (try simp only [Act.put, List.setIfInBounds_toArray, List.set_cons_zero, List.set_cons_succ]))
      refine wpAnyH_done (by kernel_rfl) ?_ _
      refine NoPanic.normal ?_
      go_wp2
      go_meet
      exact ⟨W1.heap.size, W1.heap.size + 1, rfl, block_alloc (heap_alloc_new W1 _), by
        have h := rx_zeros (W1.alloc (.cells #[.int .i64 (f : Int), .slice (some ⟨W1.heap.size + 1, 0, none⟩) n n, .slice none 0 0, .slice none 0 0, .slice none 0 0] 82 (0, 0))) n
        rw [World.size_alloc] at h
        exact h.drew, (((Below.refl _ _).alloc (Nat.le_refl _) _).alloc (by simp) _).drew, Nat.le_refl _, by omega, by omega⟩
  case rest =>
    obtain ⟨C, B, rfl, hbox, hrow, hbV, hC2, hB2', hBC⟩ := hcut
    obtain ⟨E, hE⟩ : ∃ M, wc.heap.size = M := ⟨_, rfl⟩
    obtain ⟨wZ, hwZ⟩ : ∃ W, wc.alloc (.cells (i64s (List.replicate n 0)).toArray 3) = W := ⟨_, rfl⟩
    have bZ : Below wc.heap.size wc wZ := by rw [← hwZ]; exact (Below.refl _ _).alloc (Nat.le_refl _) _
    have sZ : wZ.heap.size = E + 1 := by rw [← hwZ]; simp [hE]
    have hlt1 := block_lt hbox
    have hlt2 := hrow.lt
    have hS2Z : wZ.heap[R]? = some (.cells #[.int .i64 0, .slice none 0 0, .slice none 0 0, .slice none 0 0, .slice none 0 0] 82 (0, 0)) := by
      rw [HR.out] at HS1
      exact (bZ.block R (by have := block_lt HS1.out; have := hbV.size; omega)).trans ((hbV.block R (block_lt HS1.out)).trans HS1.out)
    have hRlt : R < C ∧ R < B ∧ R < E := by
      have h1 := block_lt HS1.out
      have h2 := HR.out
      have h3 := hbV.size
      omega
    have hX0 : Rq wZ C B E n (f : Int) (stK rows 0) (List.replicate n 0) [] none 0 0 none 0 0 none 0 0 wZ := by
      rw [stK_zero, HRn.out]
      refine ⟨(bZ.block C hlt1).trans hbox, hrow.below bZ, ?_, ⟨rfl, .inl ⟨rfl, rfl⟩⟩, ⟨rfl, .inl ⟨rfl, rfl⟩⟩, ⟨rfl, .inl ⟨rfl, rfl⟩⟩, by simp, by simp, rfl, rfl, rfl, by simp [bk], by simp [bk], by simp [bk], Mod.refl _ _, ⟨by omega, by omega, by omega⟩, ⟨hBC, by omega, by omega⟩⟩
      have h := rx_zeros wc n
      rw [hwZ, hE] at h
      exact h
    have hBwZ : Below w.heap.size w wZ := (HB1.out.trans (hbV.mono HB1.out.size)).trans (bZ.mono (by have := HB1.out.size; have := hbV.size; omega))
    have hbw : ∀ V, Mod [C, B, E] wZ V → Below w.heap.size w V := fun V hM => hBwZ.trans (hM.toBelow hBwZ.size (fun x hx => by
      have := HR.out
      simp at hx
      omega))
    have hrw : ∀ k, k < n → ∃ rk : IRow, rows.getD k [] = rk.l ∧ rk.l.length = f ∧ rk.l ≠ [] ∧ (∀ x ∈ rk.l, 0 ≤ x ∧ x < (n : Int)) ∧ rows[k]? = some rk.l ∧ ∀ V, Mod [C, B, E] wZ V → V.cell? ⟨b, o + k, none⟩ = some (.slice rk.a f rk.cap) ∧ Rd V rk.a (i64s rk.l) := fun k hk => by
      obtain ⟨rk, h1, h2, h3, h4, h5, h6⟩ := HRow.out k hk
      exact ⟨rk, h1, h2, h3, h4, h5, fun V hV => h6 V (hbw V hV)⟩
    have HX0 := Lib.hid hX0
    have HwZ := Lib.hid hwZ
    have HBw := Lib.hid hbw
    have HS2Z := Lib.hid hS2Z
    have HRlt := Lib.hid hRlt
    have HE := Lib.hid hE
    have HRw := Lib.hid hrw
    have hFb : 1 ≤ f ∧ f ≤ 256 := HLo.out.wide
    clear hbox hrow hbV hX0 hwZ bZ sZ hBwZ hbw hS2Z hRlt hrw hlt1 hlt2 hC2 hB2' hBC hE HRow hc0 HB1 HS1
    go_upto_region 4 with (fail)
    rw [HwZ.out]
    try rw [HE.out]
    go_wp2
    go_loopw [6, 7, 29] (fun _ _ iv V => ∃ (k : Nat) (a2 : Option Addr) (c2 : Nat) (lf : List Int), k ≤ n ∧ iv = .int .i64 (k : Int) ∧ (∀ j, j < k → lf.getD j 0 = (ownN (rows.getD j []) : Int)) ∧ Rq wZ C B E n (f : Int) (stK rows 0) lf ((rows.take k).map cmn) a2 k c2 none 0 0 none 0 0 V) (fun _ _ iv _ => n - (intOf iv).toNat)
    case atStart => exact ⟨0, none, 0, List.replicate n 0, Nat.zero_le _, rfl, fun _ h => absurd h (Nat.not_lt_zero _), HX0.out⟩
    case round =>
      clear HX0
      obtain ⟨k, a2, c2, lf, hk, rfl, hlf, hX⟩ := hrel
      have HX := Lib.hid hX
      have HLf := Lib.hid hlf
      clear hX hlf
      by_cases hlt : k < n
      · as_aux_lemma =>
          obtain ⟨rk, hg, hlk, hne, hnk, hgk, hV⟩ := HRw.out k hlt
          have hck := (hV wr HX.out.mod).1
          have hki : (k : Int) < (n : Int) := by omega
          have hki0 : (0 : Int) ≤ (k : Int) := by omega
          have hcm : ∀ V, Mod [C, B, E] wZ V → Calls Tryd.prog 82 #[.slice rk.a f rk.cap, .int .i64 (n : Int)] V fun e w' => e = .returned (.int .i64 (cmn rk.l)) ∧ V = w' := fun V hM => rcommon_c rk.l rk.a f rk.cap n hlk (by omega) hne (by omega) hnk V (hV V hM).2
          have how : ∀ V, Mod [C, B, E] wZ V → Calls Tryd.prog 42 #[.slice rk.a f rk.cap, .int .i64 (n : Int)] V fun e w' => e = .returned (.int .i64 (ownN rk.l : Nat)) ∧ V = w' := fun V hM => rown_c rk.l rk.a f rk.cap n hlk (by omega) hne (by omega) hnk V (hV V hM).2
          have htk : (rows.take (k + 1)).map cmn = (rows.take k).map cmn ++ [cmn rk.l] := by
            rw [List.take_add_one, hgk, List.map_append]
            rfl
          have HCm := Lib.hid hcm
          have HOw := Lib.hid how
          have HTk := Lib.hid htk
          have HG := Lib.hid hg
          clear hcm how htk hg hlk hne hnk hgk hV
          go_wp2_with fail
          clear hck
          have hs0 : ∀ V, Below wr.heap.size wr V → V.cell? ⟨C, 2, none⟩ = some (.slice a2 k c2) := fun V hV => (box5 ((HX.out.below hV).box)).2.2.1
          have HS0 := Lib.hid hs0
          have n0 : Below wr.heap.size wr wr.drew := (Below.refl _ _).drew
          clear hs0
          refine wp_region_noPanic ?_
          refine wp_region_T (fun _ => True) (fun V => V.cell? ⟨C, 2, none⟩ = some (.slice a2 k c2)) 8 (by kernel_rfl) ⟨trivial, fun _ => HS0.out _ n0⟩ (fun _ => ?_)
          (refine wpAnyT_take (i := 0) (v := ?v0t8) (by simp only [List.getElem?_toArray, List.getElem?_cons_succ, List.getElem?_cons_zero]; rfl) (by kernel_rfl) (by kernel_rfl) (by kernel_rfl) (by decide) (fun _ _ _ h => False.elim h) (Or.inl ⟨by rfl, ?hy0t8⟩) (by exact ⟨trivial, fun _ => HS0.out _ n0⟩) ?rest0t8; (case hy0t8 => (intro w hSw; (try dsimp only at hSw); go_simp; (try with_reducible rfl))); (try simp only [Act.put, List.setIfInBounds_toArray, List.set_cons_zero, List.set_cons_succ]))
          (refine wpAnyT_take0 (i := 1) (v := ?v1t9) (by simp only [List.getElem?_toArray, List.getElem?_cons_succ, List.getElem?_cons_zero]; rfl) (by kernel_rfl) (by kernel_rfl) (by kernel_rfl) (by decide) (by kernel_rfl) (by kernel_rfl) (fun _ _ _ h => False.elim h) (Or.inl ⟨by rfl, ?hy1t9⟩) (by exact ⟨trivial, fun _ => HS0.out _ n0⟩) ?rest1t9; (case hy1t9 => (intro w hSw; (try dsimp only at hSw); go_simp; (try with_reducible rfl))); (try simp only [Act.put, List.setIfInBounds_toArray, List.set_cons_zero, List.set_cons_succ]))
          (refine wpAnyT_take (i := 2) (v := ?v2t10) (by simp only [List.getElem?_toArray, List.getElem?_cons_succ, List.getElem?_cons_zero]; rfl) (by kernel_rfl) (by kernel_rfl) (by kernel_rfl) (by decide) (fun _ _ _ h => False.elim h) (Or.inl ⟨by rfl, ?hy2t10⟩) (by exact ⟨trivial, fun _ => HS0.out _ n0⟩) ?rest2t10; (case hy2t10 => (intro w hSw; (try dsimp only at hSw); go_simp; (try with_reducible rfl))); (try simp only [Act.put, List.setIfInBounds_toArray, List.set_cons_zero, List.set_cons_succ]))
          (refine wpAnyT_take (i := 3) (v := ?v3t11) (by simp only [List.getElem?_toArray, List.getElem?_cons_succ, List.getElem?_cons_zero]; rfl) (by kernel_rfl) (by kernel_rfl) (by kernel_rfl) (by decide) (fun _ _ _ h => False.elim h) (Or.inl ⟨by rfl, ?hy3t11⟩) (by exact ⟨trivial, fun _ => HS0.out _ n0⟩) ?rest3t11; (case hy3t11 => (intro w hSw; (try dsimp only at hSw); go_simp; (try with_reducible rfl))); (try simp only [Act.put, List.setIfInBounds_toArray, List.set_cons_zero, List.set_cons_succ]))
          (refine wpAnyT_ready (rs := [4]) (by kernel_rfl) (by simp) ?_; refine AllReadyT.cons (o := _) (by simp only [List.getElem?_toArray, List.getElem?_cons_succ, List.getElem?_cons_zero]; rfl) (fun K hK => ?_) AllReadyT.nil; go_simp; ((with_reducible refine (HCm.out _ (HX.out.drew).mod).mono ?_); rintro _ v1 ⟨rfl, rfl⟩); refine hK.out _ _ (by exact ⟨trivial, fun _ => HS0.out _ n0⟩) (fun _ => ?_); clear hK K; (try simp only [Act.put, List.setIfInBounds_toArray, List.set_cons_zero, List.set_cons_succ]))
          have n2 : Below wr.heap.size wr (wr.alloc (.cells #[.int .i64 (cmn rk.l)] 3)).drew := ((Below.refl _ _).alloc (Nat.le_refl _) _).drew
          obtain ⟨g2, k2', w3, runA, hbx, hX3, _⟩ := HX.out.grow2 (by omega) _ n2 wr.heap.size (cmn rk.l) (Rd.new wr #[.int .i64 (cmn rk.l)] 3 (0, 0) _ rfl)
          rw [← HTk.out] at hX3
          have hs3 : w3.cell? ⟨C, 2, none⟩ = some (.slice a2 k c2) := (box5 hbx).2.2.1
          have hf3 : w3.frozen? ⟨C, 2, none⟩ = false := frozen_block hbx 2
          obtain ⟨w4, hw4⟩ : ∃ w4, w3.setCell ⟨C, 2, none⟩ (.slice (some ⟨g2, 0, none⟩) (k + 1) k2') = w4 := ⟨_, rfl⟩
          rw [hw4] at hX3
          have HX3 := Lib.hid hX3
          have Hw4 := Lib.hid hw4
          clear hX3 hw4 hbx
          (refine wpAnyT_ready (rs := [5]) (by kernel_rfl) (by simp) ?_; refine AllReadyT.cons (o := _) (by simp only [List.getElem?_toArray, List.getElem?_cons_succ, List.getElem?_cons_zero]; rfl) (fun K hK => ?_) AllReadyT.nil; go_simp; (skip); refine hK.out _ _ (by exact ⟨trivial, fun _ => HS0.out _ n2⟩) (fun _ => ?_); clear hK K; (try simp only [Act.put, List.setIfInBounds_toArray, List.set_cons_zero, List.set_cons_succ]))
          (refine wpAnyT_ready (rs := [6]) (by kernel_rfl) (by simp) ?_; refine AllReadyT.cons (o := _) (by simp only [List.getElem?_toArray, List.getElem?_cons_succ, List.getElem?_cons_zero]; rfl) (fun K hK => ?_) AllReadyT.nil; (((with_reducible apply step_append_run runA); rfl; rfl; rfl; rfl; rfl)); refine hK.out _ _ (by exact ⟨trivial, fun _ => hs3⟩) (fun _ => ?_); clear hK K; (try simp only [Act.put, List.setIfInBounds_toArray, List.set_cons_zero, List.set_cons_succ]))
          (refine wpAnyT_take (i := 7) (v := ?v7t12) (by simp only [List.getElem?_toArray, List.getElem?_cons_succ, List.getElem?_cons_zero]; rfl) (by kernel_rfl) (by kernel_rfl) (by kernel_rfl) (by decide) (fun _ _ _ h => False.elim h) (Or.inl ⟨by rfl, ?hy7t12⟩) (by exact ⟨trivial, fun _ => hs3⟩) ?rest7t12; (case hy7t12 => (intro w hSw; (try dsimp only at hSw); go_simp; (try with_reducible rfl))); (try simp only [Act.put, List.setIfInBounds_toArray, List.set_cons_zero, List.set_cons_succ]))
          (refine wpAnyT_ready (rs := [8]) (by kernel_rfl) (by simp) ?_; refine AllReadyT.cons (o := _) (by simp only [List.getElem?_toArray, List.getElem?_cons_succ, List.getElem?_cons_zero]; rfl) (fun K hK => ?_) AllReadyT.nil; go_simp; (skip); refine hK.out _ _ (by exact ⟨trivial, fun h => absurd h (by decide)⟩) (fun _ => ?_); clear hK K; (try simp only [Act.put, List.setIfInBounds_toArray, List.set_cons_zero, List.set_cons_succ]))
          refine wpAnyT_done (by kernel_rfl) ?_ _
          refine NoPanic.normal ?_
          go_wp2_with fail
          rw [Hw4.out]
          clear runA hs3 hf3 n0 n2 HS0
          refine (HOw.out w4 HX3.out.mod).mono ?_
          rintro _ w5 ⟨rfl, rfl⟩
          have q1 := rx_i64 HX3.out.lrow k (by rw [HX3.out.ll]; exact hlt)
          have q2 := HX3.out.lrow.fr k
          have hX5 := HX3.out.setLeft k (ownN rk.l : Nat)
          have HX5 := Lib.hid hX5
          have hlf5 : ∀ j, j < k + 1 → (lf.set k (ownN rk.l : Nat)).getD j 0 = (ownN (rows.getD j []) : Int) := fun j hj => by
            rw [set_getD _ _ _ _ _ (by rw [HX3.out.ll]; exact hlt)]
            by_cases hjk : j = k
            · rw [if_pos hjk, hjk, HG.out]
            · rw [if_neg hjk]
              exact HLf.out j (by omega)
          have HLf5 := Lib.hid hlf5
          clear hX5 hlf5
          go_wp2
          go_roundw
          case rel => exact ⟨k + 1, _, _, _, hlt, by go_num, HLf5.out, HX5.out⟩
          case measure => simp [intOf]; omega
      · obtain rfl : k = n := by omega
        obtain ⟨g2, hg2⟩ := own_some HX.out.own2 hn1
        subst hg2
        have hX2 : Rq wZ C B E k (f : Int) (stK rows 0) (leftL rows ((ord rows).take 0)) (rows.map cmn) (some ⟨g2, 0, none⟩) k c2 none 0 0 none 0 0 wr := by
          have h := HX.out
          have e1 : lf = leftL rows ((ord rows).take 0) := by
            apply List.ext_getElem?
            intro t
            rcases Nat.lt_or_ge t k with ht | ht
            · have h1 := HLf.out t ht
              have h2 := leftL_get rows ((ord rows).take 0) (i := t) (by rw [HRn.out]; exact ht)
              rw [if_neg (by simp)] at h2
              rw [List.getD_eq_getElem?_getD, List.getElem?_eq_getElem (by rw [h.ll]; exact ht), Option.getD_some] at h1
              rw [List.getD_eq_getElem?_getD, List.getElem?_eq_getElem (by rw [leftL_len, HRn.out]; exact ht), Option.getD_some] at h2
              rw [List.getElem?_eq_getElem (by rw [h.ll]; exact ht), List.getElem?_eq_getElem (by rw [leftL_len, HRn.out]; exact ht), h1, h2]
            · rw [List.getElem?_eq_none (by rw [h.ll]; exact ht), List.getElem?_eq_none (by rw [leftL_len, HRn.out]; exact ht)]
          rw [e1, List.take_of_length_le (l := rows) (by rw [HRn.out]; exact Nat.le_refl _)] at h
          exact h
        have HX2 := Lib.hid hX2
        clear hX2 HX HLf
        have hnlt : ¬ (k : Int) < (k : Int) := by omega
        go_wp2
        go_loopw [8, 9, 10, 11, 12, 13, 14, 15, 51, 55, 89, 134] (fun _ _ _ _ _ _ _ _ iv _ _ _ V => ∃ (j m : Nat) (a3 : Option Addr) (c3 : Nat) (a4 : Option Addr) (c4 : Nat), j ≤ k ∧ iv = .int .i64 (j : Int) ∧ m ≤ 256 * j ∧ Rq wZ C B E k (f : Int) (stK rows j) (leftL rows ((ord rows).take j)) (rows.map cmn) (some ⟨g2, 0, none⟩) k c2 a3 m c3 a4 m c4 V) (fun _ _ _ _ _ _ _ _ iv _ _ _ _ => k - (intOf iv).toNat)
        case atStart => exact ⟨0, 0, none, 0, none, 0, Nat.zero_le _, rfl, Nat.le_refl _, HX2.out⟩
        case round =>
          clear HX2
          obtain ⟨j, m, a3, c3, a4, c4, hj, rfl, hm, hX⟩ := hrel
          have HX := Lib.hid hX
          clear hX
          by_cases hlt : j < k
          · as_aux_lemma =>
              have hji : (j : Int) < (k : Int) := by omega
              obtain ⟨lf, hlf⟩ : ∃ l, leftL rows ((ord rows).take j) = l := ⟨_, rfl⟩
              have hlc : ∀ V, Below wr.heap.size wr V → ∀ t, t < k → V.cell? ⟨E, t, none⟩ = some (.int .i64 (lf.getD t 0)) := fun V hV t ht => by
                rw [← hlf]
                exact rx_i64 (HX.out.below hV).lrow t (by rw [HX.out.ll]; exact ht)
              have HLc := Lib.hid hlc
              have Hlf := Lib.hid hlf
              clear hlc hlf
              obtain ⟨wo, hwo⟩ : ∃ wo, wo = wr := ⟨_, rfl⟩
              subst hwo
              go_wp2
              go_loopw [8, 9, 55] (fun vi _ vt W => ∃ (t : Nat) (i : Int), t ≤ k ∧ vt = .int .i64 (t : Int) ∧ vi = .int .i64 i ∧ PickI lf t i ∧ Below wo.heap.size wo W) (fun _ _ vt _ => k - (intOf vt).toNat)
              case atStart => exact ⟨0, -1, Nat.zero_le _, rfl, rfl, PickI.nil lf, Below.refl _ _⟩
              case round =>
                obtain ⟨t, i, ht, rfl, rfl, hP, hB⟩ := hrel
                have HP := Lib.hid hP
                have HB := Lib.hid hB
                clear hP hB
                by_cases hlt2 : t < k
                · as_aux_lemma =>
                    have hti : (t : Int) < (k : Int) := by omega
                    have hti0 : (0 : Int) ≤ (t : Int) := by omega
                    have ct := HLc.out wr HB.out t hlt2
                    by_cases g1 : lf.getD t 0 < 0
                    · have HN := Lib.hid (HP.out.neg g1)
                      obtain ⟨x, hx⟩ : ∃ x, lf.getD t 0 = x := ⟨_, rfl⟩
                      rw [hx] at ct g1
                      have d1 : decide (0 ≤ x) = false := by simp; omega
                      clear hx HP
                      go_wp2_with fail
                      go_quiet (fail)
                      go_wp2
                      go_roundw
                      case rel => exact ⟨t + 1, i, hlt2, by go_num, rfl, HN.out, below_drewN HB.out _⟩
                      case measure => simp [intOf]; omega
                    · have g1' : 0 ≤ lf.getD t 0 := by omega
                      by_cases g2 : i < 0
                      · have hi1 : i = -1 := by
                          rcases HP.out with ⟨h1, _⟩ | ⟨q, h1, _⟩
                          · exact h1
                          · omega
                        have HN : Hid (PickI lf (t + 1) (t : Int)) := Lib.hid (by
                          have h := HP.out
                          rw [hi1] at h
                          exact h.first g1')
                        obtain ⟨x, hx⟩ : ∃ x, lf.getD t 0 = x := ⟨_, rfl⟩
                        rw [hx] at ct g1'
                        have d1 : decide (0 ≤ x) = true := by simp; omega
                        have d2 : decide (i < 0) = true := by simp; omega
                        clear hx HP g1
                        subst hi1
                        go_wp2_with fail
                        go_quiet (fail)
                        go_wp2
                        go_roundw
                        case rel => exact ⟨t + 1, (t : Int), hlt2, by go_num, rfl, HN.out, below_drewN HB.out _⟩
                        case measure => simp [intOf]; omega
                      · obtain ⟨q, rfl, hq⟩ : ∃ q : Nat, i = (q : Int) ∧ q < t := by
                          rcases HP.out with ⟨h1, _⟩ | ⟨q, h1, h2, _⟩
                          · omega
                          · exact ⟨q, h1, h2⟩
                        have hqk : (q : Int) < (k : Int) := by omega
                        have hq0 : (0 : Int) ≤ (q : Int) := by omega
                        have cq := HLc.out wr HB.out q (by omega)
                        by_cases g3 : lf.getD q 0 < lf.getD t 0
                        · have HN := Lib.hid (HP.out.more g3)
                          obtain ⟨x, hx⟩ : ∃ x, lf.getD t 0 = x := ⟨_, rfl⟩
                          obtain ⟨y, hy⟩ : ∃ y, lf.getD q 0 = y := ⟨_, rfl⟩
                          rw [hx] at ct g1' g3
                          rw [hy] at cq g3
                          have d1 : decide (0 ≤ x) = true := by simp; omega
                          have d2 : decide ((q : Int) < 0) = false := by simp
                          have d3 : decide (y < x) = true := by simp; omega
                          clear hx hy HP g1
                          go_wp2_with fail
                          go_quiet (fail)
                          go_wp2
                          go_roundw
                          case rel => exact ⟨t + 1, (t : Int), hlt2, by go_num, rfl, HN.out, below_drewN HB.out _⟩
                          case measure => simp [intOf]; omega
                        · have HN := Lib.hid (HP.out.less g3)
                          obtain ⟨x, hx⟩ : ∃ x, lf.getD t 0 = x := ⟨_, rfl⟩
                          obtain ⟨y, hy⟩ : ∃ y, lf.getD q 0 = y := ⟨_, rfl⟩
                          rw [hx] at ct g1' g3
                          rw [hy] at cq g3
                          have d1 : decide (0 ≤ x) = true := by simp; omega
                          have d2 : decide ((q : Int) < 0) = false := by simp
                          have d3 : decide (y < x) = false := by simp; omega
                          clear hx hy HP g1
                          go_wp2_with fail
                          go_quiet (fail)
                          go_wp2
                          go_roundw
                          case rel => exact ⟨t + 1, (q : Int), hlt2, by go_num, rfl, HN.out, below_drewN HB.out _⟩
                          case measure => simp [intOf]; omega
                · obtain rfl : t = k := by omega
                  obtain ⟨I, hI⟩ : ∃ I, nxt rows j = I := ⟨_, rfl⟩
                  have hiI : i = (I : Int) := by
                    rw [← hI]
                    have h := HP.out
                    rw [← Hlf.out, ← HRn.out] at h
                    exact nxt_of (by rw [HRn.out]; exact hlt) h
                  have hIt : I < t := by
                    have := nxt_lt (rows := rows) (k := j) (by rw [HRn.out]; exact hlt)
                    rw [hI, HRn.out] at this
                    exact this
                  subst hiI
                  have hnlt3 : ¬ (t : Int) < (t : Int) := by omega
                  have hIi : (I : Int) < (t : Int) := by omega
                  have hI0 : (0 : Int) ≤ (I : Int) := by omega
                  have hXw := HX.out.below HB.out
                  have q1 := HLc.out wr HB.out I hIt
                  have q2 := hXw.lrow.fr I
                  have hX4 := hXw.setLeft I (-1)
                  rw [leftL_set rows _ (by rw [HRn.out]; exact hIt), ← hI, ← take_nxt (by rw [HRn.out]; exact hlt), hI] at hX4
                  obtain ⟨w4, hw4⟩ : ∃ w4, wr.setCell ⟨E, I, none⟩ (.int .i64 (-1)) = w4 := ⟨_, rfl⟩
                  rw [hw4] at hX4
                  have HX4 := Lib.hid hX4
                  have Hw4 := Lib.hid hw4
                  have HI := Lib.hid hI
                  clear hX4 hw4 hI hXw HP HLc Hlf HX HB
                  have hw4f : wr.setCell ⟨E, I, none⟩ (.int .i64 (-1)) = w4 := Hw4.out
                  go_upto_region 20 with (fail)
                  try rw [hw4f]
                  clear q1 q2 hw4f Hw4
                  obtain ⟨rk, hg, hlk, hne, hnk, hgk, hV⟩ := HRw.out I hIt
                  obtain ⟨hcrow, hrdrow⟩ := hV w4 HX4.out.mod
                  have hVr : ∀ V, Mod [C, B, E] wZ V → V.cell? ⟨b, o + I, none⟩ = some (.slice rk.a f rk.cap) ∧ Rd V rk.a (i64s rk.l) := hV
                  have hcdef : w4.cell? ⟨g2, I, none⟩ = some (.int .i64 (cmn rk.l)) := by
                    have h := rx_i64 (Rx.of_own HX4.out.own2).1 I (by rw [HX4.out.l2]; exact hIt)
                    rw [getD_map_cmn (by rw [HRn.out]; exact hIt), hg] at h
                    exact h
                  have hcells : ∀ p, p < f → ∃ b2 o2, rk.a = some ⟨b2, o2, none⟩ ∧ w4.cell? ⟨b2, o2 + p, none⟩ = some (.int .i64 (rk.l.getD p 0)) := fun p hp => rd_i64 hrdrow p (by rw [hlk]; exact hp)
                  obtain ⟨st, hst⟩ : ∃ st, stK rows j = st := ⟨_, rfl⟩
                  rw [hst] at HX4
                  have hckc : ∀ q, q < m → ∃ g4, a4 = some ⟨g4, 0, none⟩ ∧ w4.cell? ⟨g4, q, none⟩ = some (.int .i64 (st.check.getD q 0)) := fun q hq => by
                    obtain ⟨g4, h4⟩ := own_some HX4.out.own4 (by omega)
                    have h := HX4.out.own4
                    rw [h4] at h
                    exact ⟨g4, h4, rx_i64 (Rx.of_own h).1 q (by rw [HX4.out.l4]; exact hq)⟩
                  have hckv : ∀ q, q < st.check.length → st.check.getD q 0 = -1 ∨ 0 ≤ st.check.getD q 0 := fun q hq => by
                    rw [← hst] at hq ⊢
                    exact stK_ck HLo.out.wide.2 HLo.out.len j q hq
                  have hckl : st.check.length = m := HX4.out.l4
                  obtain ⟨row, hrow⟩ : ∃ r, rk.l = r := ⟨_, rfl⟩
                  obtain ⟨RA, hRA⟩ : ∃ r, rk.a = r := ⟨_, rfl⟩
                  obtain ⟨RC, hRC⟩ : ∃ r, rk.cap = r := ⟨_, rfl⟩
                  rw [hrow, hRA, hRC] at hVr
                  rw [hRA, hRC] at hcrow
                  rw [hrow] at hg hlk hgk hne hnk hcdef hcells
                  rw [hRA] at hcells
                  obtain ⟨D, hD⟩ : ∃ D, cmn row = D := ⟨_, rfl⟩
                  rw [hD] at hcdef
                  obtain ⟨ck, hck⟩ : ∃ c, st.check = c := ⟨_, rfl⟩
                  rw [hck] at hckc hckv hckl
                  have HVr := Lib.hid hVr
                  have HCells := Lib.hid hcells
                  have HCkc := Lib.hid hckc
                  have HCkv := Lib.hid hckv
                  have HSt := Lib.hid (And.intro hst (And.intro hck (And.intro hckl hD)))
                  have HRk := Lib.hid (And.intro hg (And.intro hlk (And.intro hne hnk)))
                  have HRd := Lib.hid hcdef
                  have HRo := Lib.hid hcrow
                  have HZ := Lib.hid (box5 HX4.out.box)
                  have hmr : m ≤ 51200 := by omega
                  clear hrdrow hV hVr hcells hckc hckv hst hck hckl hD hg hlk hne hnk hgk hcdef hcrow hrow hRA hRC
                  go_wp2
                  go_loopw [10, 11, 12, 13, 89] (fun vb va _ _ _ W => ∃ (bb : Nat) (ag : Bool), vb = .int .i64 (bb : Int) ∧ va = .bool ag ∧ W = w4 ∧ bb ≤ m ∧ (∀ q, q < bb → clashP ck row q f = true) ∧ (ag = false → clashP ck row bb f = false)) (fun vb va _ _ _ _ => 2 * (m + 1 - (intOf vb).toNat) + boolN va)
                  case atStart => exact ⟨0, true, rfl, rfl, rfl, Nat.zero_le _, fun _ h => absurd h (Nat.not_lt_zero _), fun h => by cases h⟩
                  case round =>
                    obtain ⟨bb, ag, rfl, rfl, rfl, hbm, hbl, hbf⟩ := hrel
                    obtain ⟨wv, hwv⟩ : ∃ x, x = wr := ⟨_, rfl⟩
                    subst hwv
                    have HBl := Lib.hid hbl
                    have HBf := Lib.hid hbf
                    clear hbl hbf
                    cases ag with
                    | true =>
                      as_aux_lemma =>
                        have hcrow := HRo.out
                        go_wp2
                        go_loopw [11, 12, 13, 89] (fun va _ _ vp W => ∃ p : Nat, p ≤ f ∧ vp = .int .i64 (p : Int) ∧ va = .bool (clashP ck row bb p) ∧ W = wv) (fun _ _ _ vp _ => f - (intOf vp).toNat)
                        case atStart => exact ⟨0, Nat.zero_le _, rfl, rfl, by first | rfl | trivial⟩
                        case round =>
                          clear hcrow
                          obtain ⟨p, hp, rfl, rfl, rfl⟩ := hrel
                          by_cases hlt4 : p < f
                          · as_aux_lemma =>
                              obtain ⟨b2, o2, ha2, hc2⟩ := HCells.out p hlt4
                              have hpi : (p : Int) < (f : Int) := by omega
                              have hpi0 : (0 : Int) ≤ (p : Int) := by omega
                              have hcs := clashP_succ ck row bb p
                              have hcdef := HRd.out
                              obtain ⟨z0, z1, z2, z3, z4⟩ := HZ.out
                              have hws : IntKind.i64.wrap ((bb : Int) + (p : Int)) = (bb : Int) + (p : Int) := by rw [IntKind.wrap_i64]; omega
                              have hwd : (bb : Int) + (p : Int) = ((bb + p : Nat) : Int) := by omega
                              obtain ⟨CP, hCP⟩ : ∃ x, clashP ck row bb p = x := ⟨_, rfl⟩
                              rw [hCP] at hcs ⊢
                              clear hCP
                              by_cases e1 : row.getD p 0 = D
                              · have HN : Hid (clashP ck row bb (p + 1) = CP) := Lib.hid (by
                                  rw [hcs]
                                  unfold clash1
                                  rw [HSt.out.2.2.2, decide_eq_false (by simpa using e1)]
                                  simp)
                                rw [e1] at hc2
                                clear e1 hcs hwd
                                subst ha2
                                go_wp2
                                go_roundw
                                case rel => exact ⟨p + 1, hlt4, by go_num, by rw [HN.out], (by first | trivial | rfl)⟩
                                case measure => simp [intOf]; omega
                              · obtain ⟨x, hx⟩ : ∃ x, row.getD p 0 = x := ⟨_, rfl⟩
                                have hc1 : clash1 ck row bb p = (decide (bb + p < ck.length) && decide (0 ≤ ck.getD (bb + p) 0)) := by
                                  unfold clash1
                                  rw [HSt.out.2.2.2, decide_eq_true e1]
                                  rfl
                                rw [hx] at hc2 e1
                                rw [hc1, HSt.out.2.2.1] at hcs
                                have d1 : (x == D) = false := by simpa using e1
                                have d1' : decide (x = D) = false := by simpa using e1
                                by_cases e2 : bb + p < m
                                · have i2 : (bb : Int) + (p : Int) < (m : Int) := by omega
                                  have i20 : (0 : Int) ≤ (bb : Int) + (p : Int) := by omega
                                  have i2d : decide ((bb : Int) + (p : Int) < (m : Int)) = true := by simp; omega
                                  have i2n : decide (bb + p < m) = true := by simp; omega
                                  obtain ⟨g4, ha4, hc4⟩ := HCkc.out (bb + p) e2
                                  have hN : ((bb : Int) + (p : Int)).toNat = bb + p := by omega
                                  by_cases e3 : 0 ≤ ck.getD (bb + p) 0
                                  · have HN : Hid (clashP ck row bb (p + 1) = true) := Lib.hid (by
                                      rw [hcs, decide_eq_true e2, decide_eq_true e3]
                                      simp)
                                    obtain ⟨y, hy⟩ : ∃ y, ck.getD (bb + p) 0 = y := ⟨_, rfl⟩
                                    rw [hy] at hc4 e3
                                    have d3 : decide (0 ≤ y) = true := by simp; omega
                                    clear hcs hwd hx hy hc1 HCkc HCells
                                    subst ha2 ha4
                                    go_wp2
                                    go_roundw
                                    case rel => exact ⟨p + 1, hlt4, by go_num, by rw [HN.out], (by first | trivial | rfl)⟩
                                    case measure => simp [intOf]; omega
                                  · have HN : Hid (clashP ck row bb (p + 1) = CP) := Lib.hid (by
                                      rw [hcs, decide_eq_true e2, decide_eq_false e3]
                                      simp)
                                    obtain ⟨y, hy⟩ : ∃ y, ck.getD (bb + p) 0 = y := ⟨_, rfl⟩
                                    rw [hy] at hc4 e3
                                    have d3 : decide (0 ≤ y) = false := by simp; omega
                                    clear hcs hwd hx hy hc1 HCkc HCells
                                    subst ha2 ha4
                                    go_wp2
                                    go_roundw
                                    case rel => exact ⟨p + 1, hlt4, by go_num, by rw [HN.out], (by first | trivial | rfl)⟩
                                    case measure => simp [intOf]; omega
                                · have i2 : ¬ (bb : Int) + (p : Int) < (m : Int) := by omega
                                  have i2d : decide ((bb : Int) + (p : Int) < (m : Int)) = false := by simp; omega
                                  have i2n : decide (bb + p < m) = false := by simp; omega
                                  have HN : Hid (clashP ck row bb (p + 1) = CP) := Lib.hid (by
                                    rw [hcs, decide_eq_false e2]
                                    simp)
                                  clear hcs hwd hx hc1 HCkc HCells
                                  subst ha2
                                  go_wp2
                                  go_roundw
                                  case rel => exact ⟨p + 1, hlt4, by go_num, by rw [HN.out], (by first | trivial | rfl)⟩
                                  case measure => simp [intOf]; omega
                          · obtain rfl : p = f := by omega
                            have hnlt5 : ¬ (p : Int) < (p : Int) := by omega
                            obtain ⟨CL, hCL⟩ : ∃ x, clashP ck row bb p = x := ⟨_, rfl⟩
                            have HCL := Lib.hid hCL
                            rw [hCL]
                            clear hCL
                            cases CL with
                            | true =>
                              have hbm2 : bb < m := by
                                have := clash_lt HCL.out
                                rw [HSt.out.2.2.1] at this
                                exact this
                              have hws : IntKind.i64.wrap ((bb : Int) + 1) = (bb : Int) + 1 := by rw [IntKind.wrap_i64]; omega
                              go_wp2
                              go_roundw
                              case rel =>
                                refine ⟨bb + 1, true, by go_num, rfl, (by first | trivial | rfl), by omega, fun q hq => ?_, fun h => by cases h⟩
                                rcases Nat.lt_succ_iff_lt_or_eq.1 hq with h | h
                                · exact HBl.out q h
                                · rw [h]; exact HCL.out
                              case measure => simp [intOf, boolN]; omega
                            | false =>
                              go_wp2
                              go_roundw
                              case rel => exact ⟨bb, false, rfl, rfl, (by first | trivial | rfl), hbm, HBl.out, fun _ => HCL.out⟩
                              case measure => simp [intOf, boolN]
                    | false =>
                      as_aux_lemma =>
                        have hbase : baseOf ck (ownL row) = bb := by
                          have e := HRk.out.2.1
                          refine base_of_clash HCkv.out (by rw [e]; exact HBf.out rfl) (fun q hq => by rw [e]; exact HBl.out q hq)
                        have HBase := Lib.hid hbase
                        clear hbase HBl HBf HCkv HCkc HCells HRo HRd
                        obtain ⟨z0, z1, z2, z3, z4⟩ := HZ.out
                        have q1 := rx_i64 HX4.out.row I (by rw [HX4.out.lb]; exact hIt)
                        have q2 := HX4.out.row.fr I
                        have hX5 := HX4.out.setBase I (bb : Int)
                        obtain ⟨w5, hw5⟩ : ∃ w5, wv.setCell ⟨B, I, none⟩ (.int .i64 (bb : Int)) = w5 := ⟨_, rfl⟩
                        rw [hw5] at hX5
                        have HX5 : Hid (Rq wZ C B E t (f : Int) (putS st I bb row (ownQ row 0)) (leftL rows ((ord rows).take (j + 1))) (rows.map cmn) (some ⟨g2, 0, none⟩) t c2 a3 m c3 a4 m c4 w5) := Lib.hid hX5
                        have hcr5 := (HVr.out w5 hX5.mod).1
                        clear hX5 HZ HX4
                        go_upto_region 33 with (fail)
                        try rw [hw5]
                        clear z0 z1 z2 z3 z4 q1 q2 hw5
                        have hbbr : bb ≤ 51200 := by omega
                        go_wp2
                        clear hcr5
                        go_loopw [14, 15, 134] (fun _ _ vp W => ∃ (p mk : Nat) (a3k : Option Addr) (c3k : Nat) (a4k : Option Addr) (c4k : Nat), p ≤ f ∧ vp = .int .i64 (p : Int) ∧ mk ≤ m + p ∧ Rq wZ C B E t (f : Int) (putS st I bb row (ownQ row p)) (leftL rows ((ord rows).take (j + 1))) (rows.map cmn) (some ⟨g2, 0, none⟩) t c2 a3k mk c3k a4k mk c4k W) (fun _ _ vp _ => f - (intOf vp).toNat)
                        case atStart => exact ⟨0, m, a3, c3, a4, c4, Nat.zero_le _, rfl, Nat.le_refl _, HX5.out⟩
                        case round =>
                          clear HX5
                          obtain ⟨p, mk, a3k, c3k, a4k, c4k, hp, rfl, hmk, hX⟩ := hrel
                          have HX := Lib.hid hX
                          clear hX
                          by_cases hlt6 : p < f
                          · as_aux_lemma =>
                              obtain ⟨b2, o2, ha2, hc2⟩ := rd_i64 (HVr.out wr HX.out.mod).2 p (by rw [HRk.out.2.1]; exact hlt6)
                              have hpi : (p : Int) < (f : Int) := by omega
                              have hpi0 : (0 : Int) ≤ (p : Int) := by omega
                              have hcdef : wr.cell? ⟨g2, I, none⟩ = some (.int .i64 D) := by
                                have h := rx_i64 (Rx.of_own HX.out.own2).1 I (by rw [HX.out.l2]; exact hIt)
                                rw [getD_map_cmn (by rw [HRn.out]; exact hIt), HRk.out.1, HSt.out.2.2.2] at h
                                exact h
                              obtain ⟨z0, z1, z2, z3, z4⟩ := box5 HX.out.box
                              by_cases e1 : row.getD p 0 = D
                              · have HN : Hid (ownQ row (p + 1) = ownQ row p) := Lib.hid (ownQ_no (e1.trans HSt.out.2.2.2.symm))
                                rw [e1] at hc2
                                clear e1
                                subst ha2
                                go_wp2
                                go_roundw
                                case rel => exact ⟨p + 1, mk, _, _, _, _, hlt6, by go_num, by omega, by rw [HN.out]; exact HX.out⟩
                                case measure => simp [intOf]; omega
                              · have HN : Hid (ownQ row (p + 1) = ownQ row p ++ [p]) := Lib.hid (ownQ_yes (fun h => e1 (h.trans HSt.out.2.2.2)))
                                have hsn := putS_snoc st I bb row (ownQ row p) p
                                rw [← HN.out] at hsn
                                obtain ⟨x, hx⟩ : ∃ x, row.getD p 0 = x := ⟨_, rfl⟩
                                rw [hx] at hc2 e1 hsn
                                have d1 : (x == D) = false := by simpa using e1
                                have d1' : decide (x = D) = false := by simpa using e1
                                obtain ⟨S, hS⟩ : ∃ S, putS st I bb row (ownQ row p) = S := ⟨_, rfl⟩
                                rw [hS] at hsn HX
                                have hSb : S.base = st.base.set I (bb : Int) := by rw [← hS]; rfl
                                rw [← hSb] at hsn
                                have HSn := Lib.hid hsn
                                clear hsn hx hS hSb HN
                                subst ha2
                                have hws : IntKind.i64.wrap ((bb : Int) + (p : Int)) = (bb : Int) + (p : Int) := by rw [IntKind.wrap_i64]; omega
                                have hws1 : IntKind.i64.wrap ((bb : Int) + (p : Int) + 1) = (bb : Int) + (p : Int) + 1 := by rw [IntKind.wrap_i64]; omega
                                obtain ⟨wk, hwk⟩ : ∃ x, x = wr := ⟨_, rfl⟩
                                subst hwk
                                go_wp2
                                clear z0 z1 z2 z3 z4 hc2 hcdef
                                go_loopw [] (fun W => ∃ (mj : Nat) (a3j : Option Addr) (c3j : Nat) (a4j : Option Addr) (c4j : Nat), mk ≤ mj ∧ mj ≤ max mk (bb + p + 1) ∧ Rq wZ C B E t (f : Int) { base := S.base, check := padI S.check mj (-1), next := padI S.next mj 0 } (leftL rows ((ord rows).take (j + 1))) (rows.map cmn) (some ⟨g2, 0, none⟩) t c2 a3j mj c3j a4j mj c4j W) (fun W => bb + p + 1 - cellL W C 4)
                                case atStart =>
                                  refine ⟨mk, a3k, c3k, a4k, c4k, Nat.le_refl _, Nat.le_max_left _ _, ?_⟩
                                  rw [padI_self _ (by rw [HX.out.l4]; exact Nat.le_refl _), padI_self _ (by rw [HX.out.l3]; exact Nat.le_refl _)]
                                  exact HX.out
                                case round =>
                                  obtain ⟨mj, a3j, c3j, a4j, c4j, hmj0, hmj, hXj⟩ := hrel
                                  have hl3 := HX.out.l3
                                  have hl4 := HX.out.l4
                                  have HLl := Lib.hid (And.intro hl3 hl4)
                                  have HXj := Lib.hid hXj
                                  clear hXj hl3 hl4 HX
                                  obtain ⟨z0, z1, z2, z3, z4⟩ := box5 HXj.out.box
                                  have hmjb : mj ≤ 60000 := by omega
                                  by_cases hle : mj < bb + p + 1
                                  · as_aux_lemma =>
                                      have i1 : (mj : Int) < (bb : Int) + (p : Int) + 1 := by omega
                                      have n2 : Below wr.heap.size wr (wr.alloc (.cells #[.int .i64 (-1)] 3)) := (Below.refl _ _).alloc (Nat.le_refl _) _
                                      obtain ⟨gA, kA, wA, runA, hbxA, hXA, _⟩ := HXj.out.grow4 (by omega) _ n2 wr.heap.size (-1) (Rd.new wr #[.int .i64 (-1)] 3 (0, 0) _ rfl)
                                      obtain ⟨y0, y1, y2, y3, y4⟩ := box5 hbxA
                                      have fA := frozen_block hbxA 4
                                      obtain ⟨wB, hwB⟩ : ∃ wB, wA.setCell ⟨C, 4, none⟩ (.slice (some ⟨gA, 0, none⟩) (mj + 1) kA) = wB := ⟨_, rfl⟩
                                      rw [hwB] at hXA
                                      have n3 : Below wB.heap.size wB (wB.alloc (.cells #[.int .i64 0] 3)) := (Below.refl _ _).alloc (Nat.le_refl _) _
                                      obtain ⟨gB, kB, wC, runB, hbxB, hXB, _⟩ := hXA.grow3 (by omega) _ n3 wB.heap.size 0 (Rd.new wB #[.int .i64 0] 3 (0, 0) _ rfl)
                                      obtain ⟨t0, t1, t2, t3, t4⟩ := box5 hXA.box
                                      obtain ⟨v0, v1, v2, v3, v4⟩ := box5 hbxB
                                      have fB := frozen_block hbxB 3
                                      have HXA := Lib.hid hXA
                                      have HXB := Lib.hid hXB
                                      clear hXA hXB hbxA hbxB n2 n3
                                      go_upto_region 39 with (at_builtin; (with_reducible apply wpList_append_run runA); rfl; rfl; rfl; rfl; rfl)
                                      try rw [hwB]
                                      clear runA y0 y1 y2 y3 y4 z0 z1 z2 z3 z4 fA hwB
                                      go_wp2_with (at_builtin; (with_reducible apply wpList_append_run runB); rfl; rfl; rfl; rfl; rfl)
                                      go_roundw
                                      case rel =>
                                        refine ⟨mj + 1, some ⟨gB, 0, none⟩, kB, some ⟨gA, 0, none⟩, kA, by omega, by omega, ?_⟩
                                        rw [padI_succ _ (by rw [HLl.out.2]; exact hmj0), padI_succ _ (by rw [HLl.out.1]; exact hmj0)]
                                        exact HXB.out
                                      case measure =>
                                        have e1 : cellL wr C 4 = mj := by unfold cellL; rw [cellL_box' HXj.out.box]
                                        have e2 : cellL (wC.setCell ⟨C, 3, none⟩ (.slice (some ⟨gB, 0, none⟩) (mj + 1) kB)) C 4 = mj + 1 := by unfold cellL; rw [cellL_box' HXB.out.box]
                                        rw [e1, e2]
                                        omega
                                  · as_aux_lemma =>
                                      have i1 : ¬ (mj : Int) < (bb : Int) + (p : Int) + 1 := by omega
                                      have hmx : mj = max mk (bb + p + 1) := by omega
                                      have hsl : bb + p < mj := by omega
                                      obtain ⟨g3, hg3⟩ := own_some HXj.out.own3 (by omega)
                                      obtain ⟨g4, hg4⟩ := own_some HXj.out.own4 (by omega)
                                      subst hg3 hg4
                                      have hN : ((bb : Int) + (p : Int)).toNat = bb + p := by omega
                                      have i2 : (bb : Int) + (p : Int) < (mj : Int) := by omega
                                      have i3 : (0 : Int) ≤ (bb : Int) + (p : Int) := by omega
                                      have r4 := (Rx.of_own HXj.out.own4).1
                                      have q1 := rx_i64 r4 (bb + p) (by rw [HXj.out.l4]; exact hsl)
                                      have q2 := r4.fr (bb + p)
                                      have hX8 := HXj.out.set4 (bb + p) (I : Int)
                                      obtain ⟨w8, hw8⟩ : ∃ w8, wr.setCell ⟨g4, bb + p, none⟩ (.int .i64 (I : Int)) = w8 := ⟨_, rfl⟩
                                      rw [hw8] at hX8
                                      obtain ⟨t0, t1, t2, t3, t4⟩ := box5 hX8.box
                                      have r3 := (Rx.of_own hX8.own3).1
                                      have q3 := rx_i64 r3 (bb + p) (by rw [hX8.l3]; exact hsl)
                                      have q4 := r3.fr (bb + p)
                                      have hX9 := hX8.set3 (bb + p) x
                                      have HX9 := Lib.hid hX9
                                      clear hX8 hX9 r3 r4
                                      go_upto_region 41 with (fail)
                                      try rw [hw8]
                                      clear z0 z1 z2 z3 z4 q1 q2 hw8
                                      go_wp2
                                      go_roundw
                                      case rel =>
                                        refine ⟨p + 1, mj, some ⟨g3, 0, none⟩, c3j, some ⟨g4, 0, none⟩, c4j, hlt6, by go_num, by omega, ?_⟩
                                        rw [HSn.out, ← padI_max _ HLl.out.2 hmx, ← padI_max _ HLl.out.1 hmx]
                                        exact HX9.out
                                      case measure => simp [intOf]; omega
                          · obtain rfl : p = f := by omega
                            have hnlt7 : ¬ (p : Int) < (p : Int) := by omega
                            have HN : Hid (putS st I bb row (ownQ row p) = stK rows (j + 1)) := Lib.hid (by
                              have h1 := stK_succ (rows := rows) (k := j) (by rw [HRn.out]; exact hlt)
                              have h2 := HSt.out
                              have h3 := ownQ_all row
                              rw [HRk.out.2.1] at h3
                              rw [h1, HI.out, layS_eq, HRk.out.1, h2.1, h2.2.1, HBase.out, h3])
                            go_wp2
                            go_roundw
                            case rel => exact ⟨j + 1, mk, _, _, _, _, hlt, by go_num, by omega, by rw [← HN.out]; exact HX.out⟩
                            case measure => simp [intOf]; omega
          · obtain rfl : j = k := by omega
            as_aux_lemma =>
              have hp : Rq wZ C B E j (f : Int) (layL rows) (leftL rows ((ord rows).take j)) (rows.map cmn) (some ⟨g2, 0, none⟩) j c2 a3 m c3 a4 m c4 wr := by
                have h := HX.out
                rw [← HRn.out, stK_all, HRn.out] at h
                exact h
              have hRx := HRlt.out
              have hRe := HR.out
              have hlts := hp.lt
              have hRw : wr.heap[R]? = some (.cells #[.int .i64 0, .slice none 0 0, .slice none 0 0, .slice none 0 0, .slice none 0 0] 82 (0, 0)) := (hp.mod.block R (by have := block_lt HS2Z.out; omega) (by simp; omega)).trans HS2Z.out
              obtain ⟨q0, q1, q2, q3, q4⟩ := box5 hRw
              obtain ⟨z0, z1, z2, z3, z4⟩ := box5 hp.box
              have f0 := frozen_block hRw 0
              have f1 := frozen_block hRw 1
              have f2 := frozen_block hRw 2
              have f3 := frozen_block hRw 3
              have f4 := frozen_block hRw 4
              have hne : R ≠ C := by omega
              have hnlt2 : ¬ (j : Int) < (j : Int) := by omega
              obtain ⟨wF, hwF⟩ : ∃ W, ((((wr.setCell ⟨R, 0, none⟩ (.int .i64 (f : Int))).setCell ⟨R, 1, none⟩ (.slice (some ⟨B, 0, none⟩) j j)).setCell ⟨R, 2, none⟩ (.slice (some ⟨g2, 0, none⟩) j c2)).setCell ⟨R, 3, none⟩ (.slice a3 m c3)).setCell ⟨R, 4, none⟩ (.slice a4 m c4) = W := ⟨_, rfl⟩
              have hMF : Mod [R] wr wF := by
                rw [← hwF]
                exact ((((((Mod.refl [R] wr).setCell (.inl (by simp)) _).setCell (.inl (by simp)) _).setCell (.inl (by simp)) _).setCell (.inl (by simp)) _).setCell (.inl (by simp)) _)
              have hFb : wF.heap[R]? = some (.cells #[.int .i64 (f : Int), .slice (some ⟨B, 0, none⟩) j j, .slice (some ⟨g2, 0, none⟩) j c2, .slice a3 m c3, .slice a4 m c4] 82 (0, 0)) := by
                rw [← hwF, block_setCell (block_setCell (block_setCell (block_setCell (block_setCell hRw _) _) _) _) _]
                simp
              have hbw : Below w.heap.size w wF := by
                have h1 := HBw.out wr hp.mod
                exact h1.trans (hMF.toBelow h1.size (fun x hx => by simp at hx; omega))
              have hRk : ∀ x, wZ.heap.size ≤ x → x ∉ [R] := fun x hx => by
                have := block_lt HS2Z.out
                simp; omega
              have hIs : Is wF ⟨(f : Int), some ⟨B, 0, none⟩, (layL rows).base, j, some ⟨g2, 0, none⟩, rows.map cmn, c2, a3, (layL rows).next, c3, a4, (layL rows).check, c4⟩ := by
                refine ⟨(hp.row.mod hMF (by simp; omega)).rd, (Rd.own hp.own2).mod hMF (fun p hpa => ?_), (Rd.own hp.own3).mod hMF (fun p hpa => ?_), (Rd.own hp.own4).mod hMF (fun p hpa => ?_)⟩
                · exact hRk _ (own_bk hp.own2 p.block (by rw [hpa]; simp [bk])).1
                · exact hRk _ (own_bk hp.own3 p.block (by rw [hpa]; simp [bk])).1
                · exact hRk _ (own_bk hp.own4 p.block (by rw [hpa]; simp [bk])).1
              have hcv : cv ⟨(f : Int), some ⟨B, 0, none⟩, (layL rows).base, j, some ⟨g2, 0, none⟩, rows.map cmn, c2, a3, (layL rows).next, c3, a4, (layL rows).check, c4⟩ = .agg #[.int .i64 (f : Int), .slice (some ⟨B, 0, none⟩) j j, .slice (some ⟨g2, 0, none⟩) j c2, .slice a3 m c3, .slice a4 m c4] := by
                unfold cv cells
                simp only [hp.lb, hp.l3, hp.l4, List.length_map, HRn.out]
              have HwF := Lib.hid hwF
              have HFb := Lib.hid hFb
              have HFin := Lib.hid (And.intro hcv (And.intro hIs hbw))
              have HW0 : Hid ((rows.getD 0 []).length = f) := Lib.hid (HLo.out.len _ (getD_row (by have := HLo.out.many; omega)))
              clear hp hRw hRx hRe hlts hwF hMF hFb hbw hIs hcv hRk
              go_wp2
              rw [HwF.out]
              ((try simp only [Exit.inBlock, Exit.then]); refine bodyPost_ret (results_cell_row rfl _ _ (R) 82 _ (0, 0) _ rfl (HFb.out) Tryd.underlying82 rfl ?hi1) rfl ?_; (case hi1 => kernel_rfl))
              exact ⟨⟨(f : Int), some ⟨B, 0, none⟩, (layL rows).base, j, some ⟨g2, 0, none⟩, rows.map cmn, c2, a3, (layL rows).next, c3, a4, (layL rows).check, c4⟩, by rw [HFin.out.1], ⟨by rw [HW0.out], rfl, rfl, rfl, rfl⟩, HFin.out.2.1, HFin.out.2.2⟩
end Cb
end Go.Proofs.YteekonojmpihlaaDoor
