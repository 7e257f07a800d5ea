/- The document's sets of small numbers (dofferref02). -/
import Derived.Test.YtfkjijjmphbglaaDoorMarksAg
import Derived.Test.YtfkjijjmphbglaaDoorMarks3
import Derived.Test.YtfkjijjmphbglaaDoorApp
namespace Go.Proofs.YtfkjijjmphbglaaDoor
open Go Go.RowKit Kt
namespace Mk
structure RI (w : World) (z g : Nat) (bs : List Bool) : Prop where
  hz : ∃ cap, w.heap[z]? = some (.cells #[.slice (some ⟨g, 0, none⟩) bs.length cap] 69 (0, 0))
  hg : w.heap[g]? = some (.cells (bs.map Value.bool).toArray 4 (0, 0))
  ne : g ≠ z
  len : bs.length ≤ 65536
variable {w w' : World} {z g : Nat} {bs : List Bool}
theorem RI.zlt (h : RI w z g bs) : z < w.heap.size := by obtain ⟨_, h1⟩ := h.hz; exact block_lt h1
theorem RI.glt (h : RI w z g bs) : g < w.heap.size := block_lt h.hg
theorem RI.mod {S : List Nat} (h : RI w z g bs) (hm : Mod S w w') (hz : z ∉ S) (hg : g ∉ S) : RI w' z g bs := by
  obtain ⟨cap, h1⟩ := h.hz
  exact ⟨⟨cap, by rw [hm.block z (block_lt h1) hz]; exact h1⟩, by rw [hm.block g (block_lt h.hg) hg]; exact h.hg, h.ne, h.len⟩
theorem RI.below (h : RI w z g bs) (hb : Below w.heap.size w w') : RI w' z g bs := h.mod (Mod.of_below hb []) (by simp) (by simp)
theorem RI.cell (h : RI w z g bs) (m : Nat) (hm : m < bs.length) : w.cell? ⟨g, m, none⟩ = some (.bool (bs.getD m false)) := by
  rw [cell_block h.hg, List.getElem?_toArray, List.getElem?_map, List.getElem?_eq_getElem hm, List.getD_eq_getElem?_getD, List.getElem?_eq_getElem hm]
  rfl
theorem RI.set (h : RI w z g bs) (m : Nat) (v : Bool) : RI (w.setCell ⟨g, m, none⟩ (.bool v)) z g (bs.set m v) := by
  obtain ⟨cap, h1⟩ := h.hz
  refine ⟨⟨cap, ?_⟩, ?_, h.ne, by rw [List.length_set]; exact h.len⟩
  · rw [List.length_set, block_setOther (fun e => h.ne e.symm)]; exact h1
  · rw [block_setCell h.hg]
    congr 2
    apply Array.toList_inj.1
    simp [List.map_set]
theorem ret_i {k : IntKind} {a b : Int} (h : a = b) : Ending.returned (.int k a) = .returned (.int k b) := by rw [h]
set_option maxHeartbeats 1000000 in
set_option maxRecDepth 100000 in
theorem has_r (i : Int) (w : World) (h : RI w z g bs) : Calls Tryd.prog 42 #[.pointer (some ⟨z, 0, none⟩), .int .i64 i] w fun e w' => e = .returned (.bool (hasB bs i)) ∧ w = w' := by
  obtain ⟨cap, hz⟩ := h.hz
  have k0 := cell_block hz 0
  simp at k0
  have hl := h.len
  by_cases h0 : 0 ≤ i
  · obtain ⟨m, rfl⟩ : ∃ m : Nat, i = (m : Int) := ⟨i.toNat, by omega⟩
    rw [hasB_nat]
    by_cases hm : m < bs.length
    · have kg := h.cell m hm
      clear h hz
      generalize bs.getD m false = v at *
      generalize bs.length = L at *
      go_enter Tryd.func42, Tryd.ntmps42
      go_wp2
      go_ret
      exact ⟨rfl, rfl⟩
    · rw [getD_out (by omega)]
      clear h hz
      generalize bs.length = L at *
      have hd : decide ((m : Int) < (L : Int)) = false := by simp; omega
      have hd2 : decide (m < L) = false := by simp; omega
      go_enter Tryd.func42, Tryd.ntmps42
      go_wp2
      go_ret
      exact ⟨rfl, rfl⟩
  · rw [hasB_out i (.inl (by omega))]
    have hd : decide (0 ≤ i) = false := by simp; omega
    clear h hz
    go_enter Tryd.func42, Tryd.ntmps42
    go_wp2
    go_ret
    exact ⟨rfl, rfl⟩
set_option maxHeartbeats 1000000 in
set_option maxRecDepth 100000 in
theorem put_r (i : Int) (w : World) (h : RI w z g bs) : Calls Tryd.prog 36 #[.pointer (some ⟨z, 0, none⟩), .int .i64 i] w fun e w' => e = .returned (.bool (prB bs i)) ∧ RI w' z g (puB bs i) ∧ Mod [g] w w' := by
  obtain ⟨cap, hz⟩ := h.hz
  have k0 := cell_block hz 0
  simp at k0
  have hl := h.len
  by_cases h0 : 0 ≤ i
  · obtain ⟨m, rfl⟩ : ∃ m : Nat, i = (m : Int) := ⟨i.toNat, by omega⟩
    by_cases hm : m < bs.length
    · have kg := h.cell m hm
      rw [prB_nat m hm, puB_nat m hm]
      have fg := frozen_block h.hg m
      have HI := Lib.hid (h.set m true)
      have HM := Lib.hid ((Mod.refl [g] w).setCell (p := ⟨g, m, none⟩) (.inl (by simp)) (.bool true))
      have HS := Lib.hid (fun (hv : bs.getD m false = true) => set_same hm hv)
      have H0 := Lib.hid h
      clear h hz
      cases hv : bs.getD m false with
      | true =>
        rw [hv] at kg
        rw [HS.out hv]
        clear HS hv HI HM
        generalize bs.length = L at *
        go_enter Tryd.func36, Tryd.ntmps36
        go_wp2
        go_ret
        exact ⟨rfl, H0.out, Mod.refl _ _⟩
      | false =>
        rw [hv] at kg
        clear HS hv H0
        generalize bs.length = L at *
        go_enter Tryd.func36, Tryd.ntmps36
        go_wp2
        go_ret
        exact ⟨rfl, HI.out, HM.out⟩
    · rw [prB_out (m : Int) (.inr (by omega)), puB_out (m : Int) (.inr (by omega))]
      have H0 := Lib.hid h
      clear h hz
      generalize bs.length = L at *
      have hd : decide ((L : Int) ≤ (m : Int)) = true := by simp; omega
      have hd2 : decide (L ≤ m) = true := by simp; omega
      go_enter Tryd.func36, Tryd.ntmps36
      go_wp2
      go_ret
      exact ⟨rfl, H0.out, Mod.refl _ _⟩
  · rw [prB_out i (.inl (by omega)), puB_out i (.inl (by omega))]
    have hd : decide (i < 0) = true := by simp; omega
    have H0 := Lib.hid h
    clear h hz
    go_enter Tryd.func36, Tryd.ntmps36
    go_wp2
    go_ret
    exact ⟨rfl, H0.out, Mod.refl _ _⟩
set_option maxHeartbeats 1000000 in
set_option maxRecDepth 100000 in
theorem out_r (i : Int) (w : World) (h : RI w z g bs) : Calls Tryd.prog 38 #[.pointer (some ⟨z, 0, none⟩), .int .i64 i] w fun e w' => e = .returned (.bool (hasB bs i)) ∧ RI w' z g (ouB bs i) ∧ Mod [g] w w' := by
  have HH := Lib.hid (has_r i w h)
  cases hv : hasB bs i with
  | false =>
    rw [hv] at HH
    have hs : ouB bs i = bs := by
      by_cases hi : i < 0 ∨ (bs.length : Int) ≤ i
      · exact ouB_out i hi
      · obtain ⟨m, rfl⟩ : ∃ m : Nat, i = (m : Int) := ⟨i.toNat, by omega⟩
        rw [ouB_nat m (by omega)]
        rw [hasB_nat] at hv
        exact set_same (by omega) hv
    rw [hs]
    have H0 := Lib.hid h
    clear h hs hv
    go_enter Tryd.func38, Tryd.ntmps38
    go_wp2_with fail
    refine HH.out.mono ?_
    rintro e w1 ⟨rfl, rfl⟩
    go_wp2
    go_ret
    exact ⟨rfl, H0.out, Mod.refl _ _⟩
  | true =>
    rw [hv] at HH
    have hi : ¬ (i < 0 ∨ (bs.length : Int) ≤ i) := fun hi => by rw [hasB_out i hi] at hv; cases hv
    obtain ⟨m, rfl⟩ : ∃ m : Nat, i = (m : Int) := ⟨i.toNat, by omega⟩
    have hm : m < bs.length := by omega
    rw [ouB_nat m hm]
    obtain ⟨cap, hz⟩ := h.hz
    have k0 := cell_block hz 0
    simp at k0
    have hl := h.len
    have kg := h.cell m hm
    have fg := frozen_block h.hg m
    have HI := Lib.hid (h.set m false)
    have HM := Lib.hid ((Mod.refl [g] w).setCell (p := ⟨g, m, none⟩) (.inl (by simp)) (.bool false))
    clear h hz hv hi
    generalize bs.getD m false = v at *
    generalize bs.length = L at *
    go_enter Tryd.func38, Tryd.ntmps38
    go_wp2_with fail
    refine HH.out.mono ?_
    rintro e w1 ⟨rfl, rfl⟩
    go_wp2
    go_ret
    exact ⟨rfl, HI.out, HM.out⟩
/-- The first of a row that are true. -/
def tk (bs : List Bool) (k : Nat) : List Nat := (List.range k).filter fun i => bs.getD i false
theorem tk_all (bs : List Bool) : tk bs bs.length = tru bs := rfl
theorem tk_snoc (bs : List Bool) (k : Nat) : tk bs (k + 1) = if bs.getD k false then tk bs k ++ [k] else tk bs k := by
  unfold tk
  rw [List.range_succ, List.filter_append]
  cases h : bs.getD k false <;> simp only [List.filter_cons, List.filter_nil, h, if_true, Bool.false_eq_true, if_false, List.append_nil]
theorem tk_len (bs : List Bool) (k : Nat) : (tk bs k).length ≤ k := by
  unfold tk
  refine Nat.le_trans (List.length_filter_le _ _) ?_
  rw [List.length_range]; exact Nat.le_refl _
def ReR (w : World) (bs : List Bool) (o i : Value) (W : World) : Prop := ∃ k n a c, k ≤ bs.length ∧ i = .int .i64 (k : Int) ∧ (tk bs k).length = n ∧ o = .slice a n c ∧ W.ownsRow w.heap.size 3 1 (.slice a n c) n (i64s (ints (tk bs k))) ∧ Below w.heap.size w W
set_option maxHeartbeats 2000000 in
set_option maxRecDepth 100000 in
theorem list_r (kn : Nat) (hkn : (tru bs).length = kn) (w : World) (h : RI w z g bs) : Calls Tryd.prog 39 #[.pointer (some ⟨z, 0, none⟩)] w fun e w' => ∃ a c, e = .returned (.slice a kn c) ∧ w'.ownsRow w.heap.size 3 1 (.slice a kn c) kn (i64s (ints (tru bs))) ∧ Below w.heap.size w w' := by
  obtain ⟨cap, hz⟩ := h.hz
  have hl := h.len
  obtain ⟨L, hL⟩ : ∃ L, bs.length = L := ⟨_, rfl⟩
  rw [hL] at hz hl
  have b1 := (Below.refl w.heap.size w).alloc (Nat.le_refl _) (.cells #[] 3)
  have own0 := own_new w w.heap.size 3 1 0 #[] (Nat.le_refl _) (by unfold maxLen; omega) rfl
  have hz1 := block_alloc (x := .cells #[] 3) hz
  have k0 := cell_block hz1 0
  simp at k0
  have HL := Lib.hid hL
  have HI := Lib.hid h
  have HK := Lib.hid hkn
  have H0 := Lib.hid (show ReR w bs (.slice (some ⟨w.heap.size, 0, none⟩) 0 0) (.int .i64 0) (w.alloc (.cells #[] 3)) from ⟨0, 0, _, _, Nat.zero_le _, rfl, rfl, rfl, own0, b1⟩)
  clear h hz hL hkn b1 own0 hz1
  go_enter Tryd.func39, Tryd.ntmps39
  go_wp2
  go_loopw [3, 4, 5, 12] (fun o _ _ i W => ReR w bs o i W) (fun _ _ _ i _ => L - (intOf i).toNat)
  case atStart => exact H0.out
  case round =>
    clear H0 k0
    obtain ⟨k, n, a, c, hk, rfl, hn, rfl, hown, hB⟩ := hrel
    rw [HL.out] at hk
    by_cases hlt : k < L
    · have kg := (HI.out.below hB).cell k (by rw [HL.out]; exact hlt)
      have hs := tk_snoc bs k
      have hnk := tk_len bs k
      rw [hn] at hnk
      cases hv : bs.getD k false with
      | false =>
        rw [hv] at kg hs
        rw [if_neg (by decide)] at hs
        have HR := Lib.hid (show ReR w bs (.slice a n c) (.int .i64 ((k + 1 : Nat) : Int)) wr from ⟨k + 1, n, a, c, by rw [HL.out]; exact hlt, rfl, by rw [hs]; exact hn, rfl, by rw [hs]; exact hown, hB⟩)
        clear hs hn hown hB hv
        go_wp2
        go_roundw
        case rel => exact HR.out
        case measure => simp [intOf]; omega
      | true =>
        rw [hv] at kg hs
        rw [if_pos rfl] at hs
        have b2 := (Below.refl wr.heap.size wr).alloc (Nat.le_refl _) (.cells #[.int .i64 (k : Int)] 3)
        obtain ⟨v', w2, hrun, own2, gr2, _⟩ := elI.append w.heap.size (ty := 23) (own_keep hown b2) 1 1 rfl (Rd.new wr #[.int .i64 (k : Int)] 3 (0, 0) [.int .i64 (k : Int)] rfl) (fun h => by cases h) (by intro u hu; simp at hu; subst hu; rfl) (by unfold maxLen; omega) (by omega) (by have := hB.size; simp; omega)
        obtain ⟨a2, c2, rfl, _, _, _, _⟩ := rd_own own2
        have hB2 : Below w.heap.size w w2 := (hB.alloc hB.size _).trans (below_grown (own_keep hown b2) gr2 (Nat.le_refl _) (by have := hB.size; simp; omega))
        have hrow : i64s (ints (tk bs k)) ++ [Value.int .i64 (k : Int)] = i64s (ints (tk bs (k + 1))) := by
          rw [hs]
          simp [i64s, ints]
        rw [hrow] at own2
        have HR := Lib.hid (show ReR w bs (.slice a2 (n + 1) c2) (.int .i64 ((k + 1 : Nat) : Int)) w2 from ⟨k + 1, n + 1, a2, c2, by rw [HL.out]; exact hlt, rfl, by rw [hs, List.length_append, hn]; rfl, rfl, own2, hB2⟩)
        clear hs hn hown hB hv own2 gr2 b2 hrow hB2
        go_wp2_with (at_builtin; (with_reducible apply wpList_append_run hrun); rfl; rfl; rfl; rfl; rfl)
        go_roundw
        case rel => exact HR.out
        case measure => simp [intOf]; omega
    · have hkL : k = L := by omega
      subst hkL
      have e : tk bs k = tru bs := by rw [← tk_all, HL.out]
      rw [e] at hn hown
      have : n = kn := by rw [← hn, HK.out]
      subst this
      have HO := Lib.hid hown
      have HB := Lib.hid hB
      clear hown hB e hn
      go_wp2
      go_ret
      exact ⟨a, c, rfl, HO.out, HB.out⟩
set_option maxHeartbeats 1000000 in
set_option maxRecDepth 100000 in
theorem after_r (i : Int) (w : World) (h : RI w z g bs) : Calls Tryd.prog 97 #[.pointer (some ⟨z, 0, none⟩), .int .i64 i] w fun e w' => e = .returned (.int .i64 (aft bs i)) ∧ w = w' := by
  obtain ⟨cap, hz⟩ := h.hz
  have k0 := cell_block hz 0
  simp at k0
  have hl := h.len
  have HI := Lib.hid h
  obtain ⟨L, hL⟩ : ∃ L, bs.length = L := ⟨_, rfl⟩
  rw [hL] at k0 hl
  have HL := Lib.hid hL
  clear h hz hL
  go_enter Tryd.func97, Tryd.ntmps97
  go_wp2
  go_loop [5, 6, 12] (fun _ _ j => ∃ k : Nat, k ≤ L ∧ j = .int .i64 (k : Int) ∧ ∀ q : Nat, q < k → i < (q : Int) → bs.getD q false = false) (fun _ _ j => L - (intOf j).toNat)
  case atStart => exact ⟨0, Nat.zero_le _, rfl, fun q hq => by omega⟩
  case round =>
    obtain ⟨k, hk, rfl, hno⟩ := hrel
    by_cases hlt : k < L
    · have kg := HI.out.cell k (by rw [HL.out]; exact hlt)
      have step : (bs.getD k false = false ∨ ¬ i < (k : Int)) → ∀ q : Nat, q < k + 1 → i < (q : Int) → bs.getD q false = false := by
        intro hor q hq hi
        by_cases e : q = k
        · subst e
          rcases hor with h | h
          · exact h
          · exact absurd hi h
        · exact hno q (by omega) hi
      have found : bs.getD k false = true → i < (k : Int) → aft bs i = k := fun h1 h2 => aft_some h1 h2 hno
      have HN := Lib.hid step
      have HF := Lib.hid found
      clear step found hno
      cases hv : bs.getD k false with
      | false =>
        rw [hv] at kg
        have HV := Lib.hid hv
        clear hv
        go_wp2
        go_round
        case rel => exact ⟨k + 1, hlt, by go_num, HN.out (.inl HV.out)⟩
        case measure => simp [intOf]; omega
      | true =>
        rw [hv] at kg
        by_cases hi : i < (k : Int)
        · have HE := Lib.hid (HF.out hv hi)
          clear hv
          go_wp2
          go_ret
          exact ⟨ret_i HE.out.symm, rfl⟩
        · have HV := Lib.hid hi
          have hd : decide (i < (k : Int)) = false := by simpa using hi
          clear hv
          go_wp2
          go_round
          case rel => exact ⟨k + 1, hlt, by go_num, HN.out (.inr HV.out)⟩
          case measure => simp [intOf]; omega
    · have e : aft bs i = -1 := aft_none fun q hi => by
        by_cases hq : q < k
        · exact hno q hq hi
        · exact getD_out (by rw [HL.out]; omega)
      have HE := Lib.hid e
      clear e hno
      go_wp2
      go_ret
      exact ⟨ret_i HE.out.symm, rfl⟩
set_option maxHeartbeats 2000000 in
set_option maxRecDepth 100000 in
theorem key_r (w : World) (h : RI w z g bs) : Calls Tryd.prog 98 #[.pointer (some ⟨z, 0, none⟩)] w fun e w' => e = .returned (.string (Str (keyOf (tru bs)))) ∧ Below w.heap.size w w' := by
  have hl := h.len
  have hal : ∀ x ∈ tru bs, x < 65536 := fun x hx => by have := tru_lt hx; omega
  have hll : (tru bs).length ≤ 65536 := Nat.le_trans (tru_len bs) hl
  obtain ⟨N, hN⟩ : ∃ N, (tru bs).length = N := ⟨_, rfl⟩
  have b1 := (Below.refl w.heap.size w).alloc (Nat.le_refl _) (.cells #[] 5)
  have hli := list_r N hN _ (h.below b1)
  rw [hN] at hll
  have own0 := own_new w w.heap.size 5 1 0 #[] (Nat.le_refl _) (by unfold maxLen; omega) rfl
  obtain ⟨l, hl⟩ : ∃ l, tru bs = l := ⟨_, rfl⟩
  rw [hl] at hal hli hN ⊢
  have HL := Lib.hid hli
  have HN := Lib.hid hN
  have HA := Lib.hid hal
  have HO := Lib.hid own0
  have HB0 := Lib.hid b1
  clear h hl hli hN hal own0 b1
  go_enter Tryd.func98, Tryd.ntmps98
  go_wp2_with fail
  refine HL.out.mono ?_
  rintro e w1 ⟨a1, c1, rfl, ow1, hb1⟩
  have HR := Lib.hid (Rd.own ow1)
  have HB1 := Lib.hid (HB0.out.trans (hb1.mono HB0.out.size))
  have H0 := Lib.hid (show ∃ a c, (Value.slice (some ⟨w.heap.size, 0, none⟩) 0 0) = .slice a (4 * 0) c ∧ w1.ownsRow w.heap.size 5 1 (.slice a (4 * 0) c) (4 * 0) (u8s (keyOf (l.take 0))) from ⟨_, _, rfl, own_keep HO.out hb1⟩)
  have hr0 : ∀ p, a1 = some p → w.heap.size < p.block := by
    intro p hp
    subst hp
    have := (ow1.lt p.block rfl).1
    simp at this
    omega
  have Hr0 := Lib.hid hr0
  clear ow1 hb1 hr0
  go_wp2
  go_loopw [3, 5, 10] (fun o _ i W => ∃ k a c, k ≤ l.length ∧ i = .int .i64 (k : Int) ∧ o = .slice a (4 * k) c ∧ W.ownsRow w.heap.size 5 1 (.slice a (4 * k) c) (4 * k) (u8s (keyOf (l.take k))) ∧ Below w.heap.size w W ∧ Rd W a1 (i64s (ints l)) ∧ ∀ b, a = some b → ∀ p, a1 = some p → p.block ≠ b.block) (fun _ _ i _ => N - (intOf i).toNat)
  case atStart =>
    obtain ⟨a, c, e1, e2⟩ := H0.out
    refine ⟨0, a, c, Nat.zero_le _, rfl, e1, e2, HB1.out, HR.out, ?_⟩
    intro b hb p hp
    subst hb
    simp at e1
    have := Hr0.out p hp
    rw [← e1.1]
    show p.block ≠ w.heap.size
    omega
  case round =>
    obtain ⟨k, a, c, hk, rfl, rfl, hown, hB, hrd, hsep⟩ := hrel
    rw [HN.out] at hk
    by_cases hlt : k < N
    · have hkl : k < l.length := by rw [HN.out]; exact hlt
      have hki : k < (ints l).length := by rw [ints_len]; exact hkl
      obtain ⟨bb, off, ha, hc⟩ := hrd.i64 k hki
      have hval : (ints l)[k] = (l[k] : Int) := by simp [ints]
      rw [hval] at hc
      have hm := HA.out _ (List.getElem_mem hkl)
      have hsn : keyOf (l.take (k + 1)) = keyOf (l.take k) ++ Mk.four l[k] := by
        unfold keyOf
        rw [← List.take_append_getElem hkl, List.flatMap_append]
        simp only [List.flatMap_cons, List.flatMap_nil, List.append_nil]
      generalize l[k] = m at *
      obtain ⟨x1, x2, x3, x4, hfour, e1, e2, e3, e4⟩ := four_cells m (by omega)
      rw [hfour] at hsn
      rw [show (m : Int) / 16777216 % 256 = (m : Int) / 16777216 by omega] at e1
      have b2 := (Below.refl wr.heap.size wr).alloc (Nat.le_refl _) (.cells #[.int .u8 (x1.toNat : Int), .int .u8 (x2.toNat : Int), .int .u8 (x3.toNat : Int), .int .u8 (x4.toNat : Int)] 5)
      obtain ⟨g2, c2, w2, hrun, own2, gr2, hlie, _⟩ := Num.elU8.lies w.heap.size (ty := 197) (own_keep hown b2) 4 4 rfl (by omega) (Rd.new wr #[.int .u8 (x1.toNat : Int), .int .u8 (x2.toNat : Int), .int .u8 (x3.toNat : Int), .int .u8 (x4.toNat : Int)] 5 (0, 0) (u8s [x1, x2, x3, x4]) rfl) (oneCell_u8s _) (by unfold maxLen; omega) (by omega) (by have := hB.size; simp; omega)
      have hbb : bb < wr.heap.size := lt_of_cell (p := ⟨bb, off + k, none⟩) hc
      have hsep1 : ∀ q, (Value.slice a (4 * k) c).ownBlock = some q → bb ≠ q := by
        intro q hq
        cases a with
        | none => cases hq
        | some y => simp [Value.ownBlock] at hq; have := hsep y rfl _ ha; simp at this; rw [← hq]; exact this
      have hrd2 : Rd w2 a1 (i64s (ints l)) := (hrd.alloc _).mod (Mod.of_grown gr2) (fun p hp hm => by
        rw [ha] at hp
        cases hp
        simp only [Option.mem_toList] at hm
        exact hsep1 _ hm rfl)
      have hsep2 : ∀ y, some (⟨g2, 0, none⟩ : Addr) = some y → ∀ p, a1 = some p → p.block ≠ y.block := by
        intro y hy p hp
        cases hy
        rw [ha] at hp
        cases hp
        rcases hlie with h | h
        · exact hsep1 _ h
        · subst h; simp; omega
      have hB2 : Below w.heap.size w w2 := (hB.alloc hB.size _).trans (below_grown (own_keep hown b2) gr2 (Nat.le_refl _) (by have := hB.size; simp; omega))
      rw [← u8s_append, ← hsn] at own2
      have HO2 := Lib.hid own2
      have HB2 := Lib.hid hB2
      have HR2 := Lib.hid hrd2
      have HS2 := Lib.hid hsep2
      subst ha
      clear hown own2 gr2 hB hB2 b2 hsn hfour hki hval hrd hrd2 hsep hsep2 hsep1 hlie hbb
      go_wp2_with (at_builtin; (with_reducible apply wpList_append_run hrun); rfl; rfl; rfl; rfl; rfl)
      go_roundw
      case rel => first | exact ⟨k + 1, _, c2, hkl, by go_num, by first | rfl | (congr 1 <;> omega), HO2.out, HB2.out, HR2.out, HS2.out⟩ | ((repeat apply Exists.intro); refine ⟨?r, ?f⟩; (case f => (and_intros <;> rfl)); exact ⟨k + 1, _, c2, hkl, by go_num, by first | rfl | (congr 1 <;> omega), HO2.out, HB2.out, HR2.out, HS2.out⟩)
      case measure => simp [intOf]; omega
    · have hkn : k = N := by omega
      subst hkn
      rw [List.take_of_length_le (by rw [HN.out]; exact Nat.le_refl _)] at hown
      have hkl := key_len l
      rw [HN.out] at hkl
      have hcv := str_run (P := Tryd.prog) (dst := 9) Num.elU8.ht Tryd.underlying5 Tryd.underlying9 (Rd.own hown) c 0
      rw [hkl] at hcv
      have hcv' : (convert 197 9 (.slice a (4 * k) c)).run Tryd.prog wr = .ok (.string (Str (keyOf l))) wr := hcv
      have HB := Lib.hid hB
      clear hown hB hcv hkl hrd
      go_wp2
      go_ret
      exact ⟨rfl, HB.out⟩
end Mk
end Go.Proofs.YtfkjijjmphbglaaDoor
