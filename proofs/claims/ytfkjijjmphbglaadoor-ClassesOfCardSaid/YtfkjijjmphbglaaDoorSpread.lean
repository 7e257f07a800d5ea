/- classes.Spread: rows, byte by byte. -/
import Derived.Test.YtfkjijjmphbglaaDoorSpread1
import Derived.Test.YtfkjijjmphbglaaDoorClsMap
import Derived.Test.YtfkjijjmphbglaaDoorClsAlive
namespace Go.Proofs.YtfkjijjmphbglaaDoor
open Go Go.RowKit Kt
namespace Cl
open Sb
/-- A row, byte by byte. -/
def sprd (C : List Int) (r : List Int) : List Int := C.map fun k => r.getD k.toNat 0
/-- The row under way. -/
def part' (C : List Int) (r : List Int) (c : Nat) : List Int := (sprd C r).take c ++ List.replicate (256 - c) 0
theorem sprd_len (C r : List Int) : (sprd C r).length = C.length := by simp [sprd]
theorem part_len {C r : List Int} (hC : C.length = 256) {c : Nat} (hc : c ≤ 256) : (part' C r c).length = 256 := by
  unfold part'
  rw [List.length_append, List.length_take, sprd_len, List.length_replicate]
  omega
theorem part_set {C r : List Int} (hC : C.length = 256) {c : Nat} (hc : c < 256) {k : Int} (hk : C[c]? = some k) : (part' C r c).set c (r.getD k.toNat 0) = part' C r (c + 1) := by
  have hl : ((sprd C r).take c).length = c := by rw [List.length_take, sprd_len]; omega
  have hcl : c < (sprd C r).length := by rw [sprd_len]; omega
  have hx : (sprd C r)[c] = r.getD k.toNat 0 := by
    have h2 := (List.getElem?_eq_some_iff.1 hk)
    obtain ⟨h3, h4⟩ := h2
    simp [sprd, h4]
  unfold part'
  rw [List.set_append_right _ _ (by omega), hl, Nat.sub_self, show 256 - c = (256 - (c + 1)) + 1 by omega, List.replicate_succ, List.set_cons_zero, ← List.take_append_getElem hcl, hx]
  simp
theorem okm_lt {C : List Int} {many : Int} (h : okm C many = true) {k : Int} (hk : k ∈ C) : 0 ≤ k ∧ k < many := by
  unfold okm at h
  split at h
  · rename_i n hn
    have := (rgt_lt C 0 n hn).2 k hk
    have h2 : many = n := by simpa using h
    omega
  · cases h
def sflat (C : List Int) (rws : List IRow) : List Value := (rws.map fun r => sprd C r.l).flatMap i64s
def SpR (w : World) (L C : List Int) (rws : List IRow) (n : Nat) (o i : Value) (W : World) : Prop := ∃ (k : Nat) (a : Option Addr) (cap : Nat), k ≤ n ∧ i = .int .i64 (k : Int) ∧ o = .slice a k cap ∧
  W.ownsRow (w.heap.size + 1) 35 256 (.slice a k cap) k (sflat C (rws.take k)) ∧ W.heap[w.heap.size]? = some (.cells (i64s L).toArray 30 (0, 0)) ∧ Below w.heap.size w W
def SqR (W0 : World) (R : Nat) (C r : List Int) (i : Value) (W : World) : Prop := ∃ c : Nat, c ≤ 256 ∧ i = .int .i64 (c : Int) ∧ W.heap[R]? = some (.cells (i64s (part' C r c)).toArray 35 (0, 0)) ∧ Mod [R] W0 W
theorem mod_lt_block {S : List Nat} {w W : World} (h : Mod S w W) {b : Nat} {o : Obj} (hb : w.heap[b]? = some o) (hn : b ∉ S) : W.heap[b]? = some o := (h.block b (block_lt hb) hn).trans hb
theorem rd_mod_one {w W : World} {a : Option Addr} {l : List Int} {R : Nat} (h : Rd w a (i64s l)) (hM : Mod [R] w W) (hR : w.heap.size ≤ R) : Rd W a (i64s l) := by
  intro i x hi
  obtain ⟨b, o, ha, hc⟩ := h i x hi
  have hlt := lt_of_cell hc
  simp only at hlt
  exact ⟨b, o, ha, by rw [hM.cell (p := ⟨b, o + i, none⟩) hlt (by simp; omega)]; exact hc⟩
set_option maxHeartbeats 8000000 in
set_option maxRecDepth 100000 in
theorem spread_c (C : List Int) (many : Int) (hC : C.length = 256) (ra : Option Addr) (rc rn : Nat) (rws : List IRow) (hrn : rws.length = rn) (h30 : rn ≤ 1000) (w : World) (hr : Rd w ra (rws.map IRow.v)) (hok : ∀ r ∈ rws, r.ok w) (hm : okm C many = true) (hall : rws.any (sprO many) = false) :
    Calls Tryd.prog 26 #[.agg (i64s (C ++ [many])).toArray, .slice ra rn rc] w fun e w' => ∃ a cap, e = .returned (.tuple #[.slice a rn cap, .nilIface]) ∧ Rd w' a (sflat C rws) ∧ Below w.heap.size w w' := by
  have hL : (C ++ [many]).length = 257 := by simp [hC]
  have hnew := heap_alloc_new w (.cells (i64s (C ++ [many])).toArray 30)
  have hb1 := (Below.refl w.heap.size w).alloc (Nat.le_refl _) (.cells (i64s (C ++ [many])).toArray 30)
  have hl := load_map hL hnew
  have k0 := cell_block hnew 256
  have k1 : (i64s (C ++ [many])).toArray[256]? = some (.int .i64 many) := by
    have : (C ++ [many])[256]? = some many := by rw [List.getElem?_append_right (by omega), hC]; rfl
    simp only [i64s, List.getElem?_toArray, List.getElem?_map, this, Option.map_some]
  rw [k1] at k0
  have hlen : ∀ r ∈ rws, (r.l.length : Int) = many := fun r hr => by
    have := List.any_eq_false.1 hall r hr
    simpa [sprO] using this
  have Hhl := Lib.hid hlen
  have H := Lib.hid hr
  have HO := Lib.hid hok
  have Hrn := Lib.hid hrn
  have HC := Lib.hid hC
  have Hm := Lib.hid hm
  have hlt := fun k (hk : k ∈ C) => okm_lt hm hk
  have Hlt := Lib.hid hlt
  have HLn := Lib.hid hL
  have HMR := Lib.hid fun W => mright_c C many hC W
  obtain ⟨W1, hW1⟩ : ∃ W1, w.alloc (.cells (i64s (C ++ [many])).toArray 30) = W1 := ⟨_, rfl⟩
  rw [hW1] at hl hnew hb1 k0
  have hany := fun W (hb : Below W1.heap.size W1 W) (hc : W.cell? ⟨w.heap.size, 256, none⟩ = some (.int .i64 many)) => spr_any ra rc rn rws w.heap.size many W hrn (by omega) (hr.keep (hb1.trans (hb.mono hb1.size))) (fun r hr => spread1_c r w.heap.size many W (by have := (hok r hr).cap; have := (hok r hr).max; unfold maxLen at this; omega) hc)
  have HA := Lib.hid hany
  have Hall := Lib.hid hall
  have HW1 := Lib.hid hW1
  have HB1 := Lib.hid hb1
  have Hnew := Lib.hid hnew
  clear hL hnew hb1 k1 hlen hr hok hrn hm hlt hW1 hany hC hall k0
  go_enter Tryd.func26, Tryd.ntmps26
  go_wp2_with fail
  rw [HW1.out]
  refine wp_load_run hl rfl rfl ?_
  go_wp2_with fail
  refine (HMR.out _).mono ?_
  rintro e w2 ⟨rfl, hb2⟩
  rw [Hm.out]
  have hn2 := (hb2.block _ (block_lt Hnew.out)).trans Hnew.out
  have k0 := cell_block hn2 256
  have k1 : (i64s (C ++ [many])).toArray[256]? = some (.int .i64 many) := by
    have : (C ++ [many])[256]? = some many := by rw [List.getElem?_append_right (by rw [HC.out]; omega), HC.out]; rfl
    simp only [i64s, List.getElem?_toArray, List.getElem?_map, this, Option.map_some]
  rw [k1] at k0
  have HA2 := Lib.hid (HA.out w2 hb2 k0)
  rw [Hall.out] at HA2
  have hB2 := HB1.out.trans (hb2.mono HB1.out.size)
  have R0 := Lib.hid (show SpR w (C ++ [many]) C rws rn (.slice none 0 0) (.int .i64 0) w2 from ⟨0, none, 0, by omega, rfl, rfl, ⟨rfl, .inl ⟨rfl, rfl⟩⟩, hn2, hB2⟩)
  clear hb2 hn2 k1 k0 hB2 HA hl HMR
  go_wp2_with fail
  refine HA2.out.mono ?_
  rintro e w3 ⟨rfl, rfl⟩
  go_wp2
  go_loopw [7, 9, 10, 11, 12, 25, 31] (fun o _ _ _ _ i _ W => SpR w (C ++ [many]) C rws rn o i W) (fun _ _ _ _ _ i _ _ => rn - (intOf i).toNat)
  case atStart => exact R0.out
  case round =>
    clear R0
    obtain ⟨k, a, cap, hk, rfl, rfl, hown, hbx, hB⟩ := hrel
    obtain ⟨wo, hwo⟩ : ∃ wo, wo = wr := ⟨_, rfl⟩
    subst hwo
    by_cases hlt : k < rn
    · have hd : decide ((k : Int) < (rn : Int)) = true := by simp; omega
      have hkl : k < rws.length := by rw [Hrn.out]; exact hlt
      obtain ⟨b, o, ha, hc⟩ := (H.out.keep hB).map_at k hkl
      subst ha
      have hmem := List.getElem_mem hkl
      have hrok := (HO.out _ hmem).keep hB
      have hrl := Hhl.out _ hmem
      have hfl : sflat C (rws.take (k + 1)) = sflat C (rws.take k) ++ i64s (sprd C rws[k].l) := by
        unfold sflat
        rw [← List.take_append_getElem hkl, List.map_append, List.flatMap_append]
        simp
      generalize rws[k] = r at *
      obtain ⟨sa, sc, sl⟩ := r
      unfold IRow.v at hc
      simp only at hc hrl hfl
      obtain ⟨W0, hW0⟩ : ∃ W0, wo.alloc (.cells Tryd.zeroCells35 35) = W0 := ⟨_, rfl⟩
      have hz := heap_alloc_new wo (.cells Tryd.zeroCells35 35)
      rw [zc35] at hz
      have hbx0 := block_alloc (x := .cells Tryd.zeroCells35 35) hbx
      have hb0 := (Below.refl wo.heap.size wo).alloc (Nat.le_refl _) (.cells Tryd.zeroCells35 35)
      rw [hW0] at hbx0 hb0
      rw [zc35] at hW0
      rw [hW0] at hz
      rw [← zc35] at hW0
      have hl := load_arr (C := C) Tryd.underlying28 info28 HC.out (fun i x hx => by rw [List.getElem?_append_left (List.getElem?_eq_some_iff.1 hx).1]; exact hx) hbx0
      have hz0 : part' C sl 0 = zrow := rfl
      have HW0 := Lib.hid hW0
      have Hz := Lib.hid hz
      have Hb0 := Lib.hid hb0
      have Hown := Lib.hid hown
      have Hfl := Lib.hid hfl
      have HB := Lib.hid hB
      have Hbx := Lib.hid hbx
      have Hbx0 := Lib.hid hbx0
      have Hrok := Lib.hid hrok
      have hszl : wo.heap.size < W0.heap.size := by rw [← hW0]; simp
      generalize hsl : sl.length = sn at *
      have Hsl := Lib.hid hsl
      clear hW0 hz hb0 hown hfl hB hbx hbx0 hrok hsl
      go_wp2_with fail
      rw [HW0.out]
      refine wp_load_run hl rfl rfl ?_
      go_wp2
      go_loopw [11, 12, 31] (fun _ _ i W => SqR W0 wo.heap.size C sl i W) (fun _ _ i _ => 256 - (intOf i).toNat)
      case atStart => exact ⟨0, by omega, rfl, by rw [hz0]; exact Hz.out, Mod.refl _ _⟩
      case round =>
        clear hl
        obtain ⟨c, hci, rfl, hR, hM⟩ := hrel
        by_cases hcl : c < 256
        · have hd2 : decide ((c : Int) < 256) = true := by simp; omega
          obtain ⟨x, hx⟩ : ∃ x, C[c]? = some x := ⟨_, List.getElem?_eq_getElem (by rw [HC.out]; exact hcl)⟩
          have hix := fun w => index_int Tryd.underlying28 c hcl hx w
          have hxr := Hlt.out x (List.mem_of_getElem? hx)
          have hset := part_set (r := sl) HC.out hcl hx
          obtain ⟨xn, rfl⟩ : ∃ xn : Nat, x = (xn : Int) := ⟨x.toNat, by omega⟩
          rw [Int.toNat_natCast] at hset
          have hxl : xn < sl.length := by rw [Hsl.out]; omega
          have hM0 : Mod [wo.heap.size] wo _ := (Mod.of_below Hb0.out [wo.heap.size]).trans hM (fun j hj => .inl hj)
          have hsr : Rd _ sa (i64s sl) := rd_mod_one (a := sa) Hrok.out.rd hM0 (by omega)
          obtain ⟨sb, so, hsa, hcs⟩ := hsr.i64 xn hxl
          subst hsa
          have hgd : sl.getD xn 0 = sl[xn] := by rw [List.getD_eq_getElem?_getD, List.getElem?_eq_getElem hxl]; rfl
          rw [hgd] at hset
          have hxs : xn < sn := by rw [← Hsl.out]; exact hxl
          generalize sl[xn] = y at *
          have f0 := frozen_block hR c
          have c0 := cell_block hR c
          have c1 : (i64s (part' C sl c)).toArray[c]? = some (.int .i64 ((part' C sl c)[c]'(by rw [part_len HC.out (by omega)]; omega))) := by
            simp [i64s, part_len HC.out hci, hcl]
          rw [c1] at c0
          generalize (part' C sl c)[c]'(by rw [part_len HC.out (by omega)]; omega) = old at c0
          have hR2 := block_setCell (i := c) hR (.int .i64 y)
          have e2 : (i64s (part' C sl c)).toArray.setIfInBounds c (.int .i64 y) = (i64s (part' C sl (c + 1))).toArray := by
            rw [← hset]; simp [i64s]
          rw [e2] at hR2
          have hM2 := hM.setCell (p := ⟨wo.heap.size, c, none⟩) (.inl (by simp)) (.int .i64 y)
          have HR2 := Lib.hid hR2
          have HM2 := Lib.hid hM2
          clear hR hM hM0 hsr hgd c1 hR2 e2 hM2 hset hx
          go_wp2
          go_roundw
          case rel => first | exact ⟨c + 1, hcl, by go_num, HR2.out, HM2.out⟩ | ((repeat apply Exists.intro); refine ⟨?r, ?f⟩; (case f => (and_intros <;> rfl)); exact ⟨c + 1, hcl, by go_num, HR2.out, HM2.out⟩)
          case measure => simp [intOf]; omega
        · have hc256 : c = 256 := by omega
          subst hc256
          have hd2 : decide (((256 : Nat) : Int) < 256) = false := by decide
          have hpf : part' C sl 256 = sprd C sl := by
            unfold part'
            rw [List.take_of_length_le (by rw [sprd_len, HC.out]; exact Nat.le_refl _)]
            simp
          rw [hpf] at hR
          have h256 : (sprd C sl).length = 256 := by rw [sprd_len, HC.out]
          have hl := load_row (r := sprd C sl) (o := 0) h256 (fun j v hv => by rw [cell_block hR]; simpa using hv)
          unfold rv at hl
          have hbs : ∀ W : World, (Instr.buildSlice 22 1 #[(0, .agg (i64s (sprd C sl)).toArray)]).run Tryd.prog W = .ok (.slice (some ⟨W.heap.size, 0, none⟩) 1 1) (W.alloc (.cells (i64s (sprd C sl)).toArray 35)) := fun W => build_one elRow (by omega) (v := .agg (i64s (sprd C sl)).toArray) (by simp [Value.cells, i64s_length, h256]) W
          have b2 := (Below.refl wr.heap.size wr).alloc (Nat.le_refl _) (.cells (i64s (sprd C sl)).toArray 35)
          have hM0 : Mod [wo.heap.size] wo wr := (Mod.of_below Hb0.out [wo.heap.size]).trans hM (fun j hj => .inl hj)
          have hsz1 := hM.size
          have hsw := HB.out.size
          have hown1 := own_mod Hown.out hM0 (fun j hj => by have := (Hown.out.lt j hj).2; simp; omega)
          obtain ⟨v', w2, hrun, own2, gr2, _⟩ := elRow.append (w.heap.size + 1) (ty := 22) (own_keep hown1 b2) 1 1 (by rw [i64s_length, h256]) (Rd.new wr (i64s (sprd C sl)).toArray 35 (0, 0) (i64s (sprd C sl)) (by simp)) (fun h => by cases h) (oneCell_i64s _) (by unfold maxLen; omega) (by omega) (by have := block_lt Hbx.out; have := hM0.size; simp; omega)
          obtain ⟨a2, c2, rfl, _, _, _, _⟩ := rd_own own2
          rw [← Hfl.out] at own2
          have hbx1 := mod_lt_block hM0 Hbx.out (by have := block_lt Hbx.out; simp; omega)
          have hg := below_grown (B := w.heap.size + 1) (own_keep hown1 b2) gr2 (Nat.le_refl _) (by have := block_lt Hbx.out; have := hM0.size; simp; omega)
          have hbx2 := (hg.block _ (by omega)).trans (block_alloc (x := .cells (i64s (sprd C sl)).toArray 35) hbx1)
          have hB2 : Below w.heap.size w w2 := ((HB.out.trans (hM0.toBelow HB.out.size (by simp; omega))).alloc (by have := hM0.size; omega) _).trans (hg.mono (by omega))
          have HO2 := Lib.hid own2
          have Hbx2 := Lib.hid hbx2
          have HB2 := Lib.hid hB2
          clear hown1 own2 gr2 hbx1 hg hbx2 hB2 b2 hM0 hM hR hpf
          generalize sprd C sl = row at *
          go_wp2_with fail
          refine wp_load_run hl rfl rfl ?_
          go_wp2_with fail
          refine wp_build_run (hbs _) rfl rfl ?_
          go_wp2_with (at_builtin; (with_reducible apply wpList_append_run hrun); rfl; rfl; rfl; rfl; rfl)
          go_roundw
          case rel => first | exact ⟨k + 1, a2, c2, hlt, by go_num, rfl, HO2.out, Hbx2.out, HB2.out⟩ | ((repeat apply Exists.intro); refine ⟨?r, ?f⟩; (case f => (and_intros <;> rfl)); exact ⟨k + 1, a2, c2, hlt, by go_num, rfl, HO2.out, Hbx2.out, HB2.out⟩)
          case measure => simp [intOf]; omega
    · have hkn : k = rn := by omega
      subst hkn
      have hd : decide ((k : Int) < (k : Int)) = false := by simp
      rw [List.take_of_length_le (by rw [Hrn.out]; exact Nat.le_refl _)] at hown
      have HR := Lib.hid (Rd.own hown)
      have HB := Lib.hid hB
      clear hown hbx hB
      go_wp2
      go_ret2
      exact ⟨a, cap, rfl, HR.out, HB.out⟩
end Cl
end Go.Proofs.YtfkjijjmphbglaaDoor
