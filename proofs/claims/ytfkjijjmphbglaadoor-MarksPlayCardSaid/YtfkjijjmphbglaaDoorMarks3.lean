/- The walks of package marks: List, Key, Same. -/
import Derived.Test.YtfkjijjmphbglaaDoorMarks2
import Derived.Test.YtfkjijjmphbglaaDoorEqI
import Derived.Test.YtfkjijjmphbglaaDoorEl8
namespace Go.Proofs.YtfkjijjmphbglaaDoor
open Go Go.RowKit Kt
namespace Mk
variable {w w' : World} {p b n : Nat} {ws : List Nat}
theorem elI : El Tryd.prog 23 3 (.int .i64 0) 1 8 := ⟨Tryd.underlying23, info_parts (by kernel_rfl), rfl, by decide⟩
def ints (l : List Nat) : List Int := l.map fun (m : Nat) => (m : Int)
theorem ints_len (l : List Nat) : (ints l).length = l.length := by simp [ints]
theorem ints_inj {a b : List Nat} (h : ints a = ints b) : a = b := by
  induction a generalizing b with
  | nil => cases b <;> simp [ints] at h ⊢
  | cons x a ih =>
    cases b with
    | nil => simp [ints] at h
    | cons y b =>
      simp only [ints, List.map_cons, List.cons.injEq] at h
      rw [ih h.2, show x = y by omega]
theorem after_at (i : Int) (j : Nat) (hij : i = (j : Int) - 1) (w : World) (h : Is w p b n ws) (hj : j ≤ 100000) (hT : Bt.Tab w) : Calls Tryd.prog 92 #[.pointer (some ⟨p, 0, none⟩), .int .i64 i] w fun e w' => (∃ r, e = .returned (.int .i64 r) ∧ Nx ws j r) ∧ w = w' := by
  subst hij
  exact after_c j w h hj hT
/-- The loop of List. -/
def LiR (w : World) (ws : List Nat) (o i : Value) (W : World) : Prop := ∃ j r a c k, j ≤ 64 * ws.length ∧ i = .int .i64 r ∧ Nx ws j r ∧ ((List.range j).filter (has ws)).length = k ∧ o = .slice a k c ∧ W.ownsRow w.heap.size 3 1 (.slice a k c) k (i64s (ints ((List.range j).filter (has ws)))) ∧ Below w.heap.size w W
set_option maxHeartbeats 2000000 in
set_option maxRecDepth 100000 in
theorem list_c (w : World) (h : Is w p b n ws) (hT : Bt.Tab w) : Calls Tryd.prog 94 #[.pointer (some ⟨p, 0, none⟩)] w fun e w' => ∃ a c, e = .returned (.slice a (all ws).length c) ∧ w'.ownsRow w.heap.size 3 1 (.slice a (all ws).length c) (all ws).length (i64s (ints (all ws))) ∧ Below w.heap.size w w' := by
  have hL := h.fit.2.1
  have h0 : w.ownsRow w.heap.size 3 1 (.slice none 0 0) 0 [] := ⟨rfl, .inl ⟨rfl, rfl⟩⟩
  have HI := Lib.hid h
  have HT := Lib.hid hT
  have H0 := Lib.hid h0
  clear h hT h0
  obtain ⟨ka, hka⟩ : ∃ ka, (all ws).length = ka := ⟨_, rfl⟩
  rw [hka]
  have Hka := Lib.hid hka
  clear hka
  go_enter Tryd.func94, Tryd.ntmps94
  go_wp2_with fail
  refine (after_at (-1) 0 (by omega) w HI.out (by omega) HT.out).mono ?_
  rintro e w1 ⟨⟨r, rfl, hr⟩, rfl⟩
  have Hr := Lib.hid hr
  clear hr
  go_wp2
  go_loopw [3, 4] (fun o i W => LiR w ws o i W) (fun _ i _ => if intOf i < 0 then 0 else (70001 - intOf i).toNat)
  case atStart => exact ⟨0, r, none, 0, 0, Nat.zero_le _, rfl, Hr.out, rfl, rfl, H0.out, Below.refl _ _⟩
  case round =>
    clear Hr
    obtain ⟨j, r1, a, c, k, hj, rfl, hnx, hk, rfl, hown, hB⟩ := hrel
    have Hk := Lib.hid hk
    clear hk
    rcases hnx with ⟨rfl, hno⟩ | ⟨m, rfl, hjm, hml, hm, hno⟩
    · have he := filter_end hno
      have hkk : k = ka := by rw [← Hk.out, he, Hka.out]
      subst hkk
      rw [he] at hown
      have HO := Lib.hid hown
      have HB := Lib.hid hB
      clear he hown hB hno
      go_wp2
      go_ret
      exact ⟨a, c, rfl, HO.out, HB.out⟩
    · have hf := filter_next hjm hm hno
      have hkj : k ≤ 65536 := by
        have := List.length_filter_le (has ws) (List.range j)
        rw [Hk.out, List.length_range] at this
        omega
      have hB0 := hB
      have b2 := (Below.refl wr.heap.size wr).alloc (Nat.le_refl _) (.cells #[.int .i64 (m : Int)] 3)
      obtain ⟨v', w2, hrun, own2, gr2, _⟩ := elI.append w.heap.size (ty := 23) (own_keep hown b2) 1 1 rfl (Rd.new wr #[.int .i64 (m : Int)] 3 (0, 0) [.int .i64 (m : Int)] rfl) (fun h => by cases h) (by intro u hu; simp at hu; subst hu; rfl) (by unfold maxLen; omega) (by omega) (by have := hB.size; simp; omega)
      obtain ⟨a2, c2, rfl, _, _, _, _⟩ := rd_own own2
      have hB2 : Below w.heap.size w w2 := (hB.alloc hB.size _).trans (below_grown (own_keep hown b2) gr2 (Nat.le_refl _) (by have := hB.size; simp; omega))
      have hrow : i64s (ints ((List.range j).filter (has ws))) ++ [Value.int .i64 (m : Int)] = i64s (ints ((List.range (m + 1)).filter (has ws))) := by
        rw [hf]
        simp [i64s, ints]
      rw [hrow] at own2
      have hk2 : ((List.range (m + 1)).filter (has ws)).length = k + 1 := by rw [hf, List.length_append, Hk.out]; rfl
      have HO2 := Lib.hid own2
      have HB2 := Lib.hid hB2
      have Hk2 := Lib.hid hk2
      clear hown own2 gr2 hB hB0 hB2 b2 hrow hf hno hm hk2
      go_wp2_with (at_builtin; (with_reducible apply wpList_append_run hrun); rfl; rfl; rfl; rfl; rfl)
      refine (after_at (m : Int) (m + 1) (by omega) w2 (HI.out.below HB2.out) (by omega) (HT.out.below HB2.out)).mono ?_
      rintro e w3 ⟨⟨r2, rfl, hr⟩, rfl⟩
      have Hr := Lib.hid hr
      have hmeas : (if r2 < 0 then 0 else (70001 - r2).toNat) < (if (m : Int) < 0 then 0 else (70001 - (m : Int)).toNat) := by
        rw [if_neg (by omega : ¬ (m : Int) < 0)]
        rcases hr with ⟨rfl, _⟩ | ⟨q, rfl, hq, _⟩
        · rw [if_pos (by decide)]; omega
        · rw [if_neg (by omega)]; omega
      have Hmeas := Lib.hid hmeas
      clear hr hmeas
      go_wp2
      go_roundw
      case rel => first | exact ⟨m + 1, r2, a2, c2, k + 1, hml, rfl, Hr.out, Hk2.out, rfl, HO2.out, HB2.out⟩ | ((repeat apply Exists.intro); refine ⟨?r, ?f⟩; (case f => (and_intros <;> rfl)); exact ⟨m + 1, r2, a2, c2, k + 1, hml, rfl, Hr.out, Hk2.out, rfl, HO2.out, HB2.out⟩)
      case measure => exact Hmeas.out
/-- The loop of Key. -/
def KeR (w : World) (l : List Nat) (o i : Value) (W : World) : Prop := ∃ k a c, k ≤ l.length ∧ i = .int .i64 (k : Int) ∧ o = .slice a (4 * k) c ∧ W.ownsRow w.heap.size 5 1 (.slice a (4 * k) c) (4 * k) (u8s (keyOf (l.take k))) ∧ Below w.heap.size w W
theorem four_cells (m : Nat) (_hm : m < 4294967296) : ∃ c1 c2 c3 c4 : UInt8, four m = [c1, c2, c3, c4] ∧ (m : Int) / 16777216 % 256 = (c1.toNat : Int) ∧ (m : Int) / 65536 % 256 = (c2.toNat : Int) ∧ (m : Int) / 256 % 256 = (c3.toNat : Int) ∧ (m : Int) % 256 = (c4.toNat : Int) := by
  refine ⟨_, _, _, _, rfl, ?_, ?_, ?_, ?_⟩ <;> simp <;> omega
set_option maxHeartbeats 2000000 in
set_option maxRecDepth 100000 in
theorem key_c (w : World) (h : Is w p b n ws) (hT : Bt.Tab w) : Calls Tryd.prog 90 #[.pointer (some ⟨p, 0, none⟩)] w fun e w' => e = .returned (.string (Str (keyOf (all ws)))) ∧ Below w.heap.size w w' := by
  have hL := h.fit.2.1
  have hal : ∀ x ∈ all ws, x < 65536 := fun x hx => by have := all_lt hx; omega
  have hll : (all ws).length ≤ 65536 := by
    unfold all
    refine Nat.le_trans (List.length_filter_le _ _) ?_
    rw [List.length_range]
    omega
  have hli := list_c w h hT
  have h0 : ∀ W : World, W.ownsRow W.heap.size 5 1 (.slice none 0 0) 0 [] := fun W => ⟨rfl, .inl ⟨rfl, rfl⟩⟩
  obtain ⟨l, hl⟩ : ∃ l, all ws = l := ⟨_, rfl⟩
  rw [hl] at hal hll hli ⊢
  obtain ⟨N, hN⟩ : ∃ N, l.length = N := ⟨_, rfl⟩
  rw [hN] at hll hli
  have HL := Lib.hid hli
  have HN := Lib.hid hN
  have HA := Lib.hid hal
  have H0 := Lib.hid h0
  clear h hT hl hli hN hal h0
  go_enter Tryd.func90, Tryd.ntmps90
  go_wp2_with fail
  refine HL.out.mono ?_
  rintro e w1 ⟨a1, c1, rfl, ow1, hb1⟩
  have HR := Lib.hid (Rd.own ow1)
  have HB1 := Lib.hid hb1
  clear ow1 hb1
  go_wp2
  go_loopw [3, 5, 9] (fun o _ i W => KeR w1 l o i W) (fun _ _ i _ => N - (intOf i).toNat)
  case atStart => exact ⟨0, none, 0, Nat.zero_le _, rfl, rfl, H0.out _, Below.refl _ _⟩
  case round =>
    obtain ⟨k, a, c, hk, rfl, rfl, hown, hB⟩ := hrel
    rw [HN.out] at hk
    by_cases hlt : k < N
    · have hkl : k < l.length := by rw [HN.out]; exact hlt
      have hki : k < (ints l).length := by rw [ints_len]; exact hkl
      obtain ⟨bb, off, ha, hc⟩ := (HR.out.keep hB).i64 k hki
      have hval : (ints l)[k] = (l[k] : Int) := by simp [ints]
      rw [hval] at hc
      subst ha
      have hm := HA.out _ (List.getElem_mem hkl)
      have hsn : keyOf (l.take (k + 1)) = keyOf (l.take k) ++ four l[k] := by
        unfold keyOf
        rw [← List.take_append_getElem hkl, List.flatMap_append]
        simp only [List.flatMap_cons, List.flatMap_nil, List.append_nil]
      generalize l[k] = m at *
      obtain ⟨x1, x2, x3, x4, hfour, e1, e2, e3, e4⟩ := four_cells m (by omega)
      rw [hfour] at hsn
      have b2 := (Below.refl wr.heap.size wr).alloc (Nat.le_refl _) (.cells #[.int .u8 (x1.toNat : Int), .int .u8 (x2.toNat : Int), .int .u8 (x3.toNat : Int), .int .u8 (x4.toNat : Int)] 5)
      obtain ⟨v', w2, hrun, own2, gr2, _⟩ := Num.elU8.append w1.heap.size (ty := 197) (own_keep hown b2) 4 4 rfl (Rd.new wr #[.int .u8 (x1.toNat : Int), .int .u8 (x2.toNat : Int), .int .u8 (x3.toNat : Int), .int .u8 (x4.toNat : Int)] 5 (0, 0) (u8s [x1, x2, x3, x4]) rfl) (fun h => by cases h) (oneCell_u8s _) (by unfold maxLen; omega) (by omega) (by have := hB.size; simp; omega)
      obtain ⟨a2, c2, rfl, _, _, _, _⟩ := rd_own own2
      have hB2' : Below w1.heap.size wr w2 := b2.mono (by have := hB.size; omega) |>.trans (below_grown (own_keep hown b2) gr2 (Nat.le_refl _) (by have := hB.size; simp; omega))
      have hB2 := hB.trans hB2'
      rw [← u8s_append, ← hsn] at own2
      have HO2 := Lib.hid own2
      have HB2 := Lib.hid hB2
      clear hown own2 gr2 hB hB2 hB2' b2 hsn hfour hm hki hval
      go_wp2_with (at_builtin; (with_reducible apply wpList_append_run hrun); rfl; rfl; rfl; rfl; rfl)
      go_roundw
      case rel => first | exact ⟨k + 1, a2, c2, hkl, by go_num, by first | rfl | (congr 1 <;> omega), HO2.out, HB2.out⟩ | ((repeat apply Exists.intro); refine ⟨?r, ?f⟩; (case f => (and_intros <;> rfl)); exact ⟨k + 1, a2, c2, hkl, by go_num, by first | rfl | (congr 1 <;> omega), HO2.out, HB2.out⟩)
      case measure => simp [intOf]; omega
    · have hkn : k = N := by omega
      subst hkn
      rw [List.take_of_length_le (by rw [HN.out]; exact Nat.le_refl _)] at hown
      have hkl := key_len l
      rw [HN.out] at hkl
      have hcv := str_run (P := Tryd.prog) (dst := 9) Num.elU8.ht Tryd.underlying5 Tryd.underlying9 (Rd.own hown) c 0
      rw [hkl] at hcv
      have hcv' : (convert 197 9 (.slice a (4 * k) c)).run Tryd.prog wr = .ok (.string (Str (keyOf l))) wr := hcv
      have HB := Lib.hid hB
      clear hown hB hcv hkl
      go_wp2
      go_ret
      exact ⟨rfl, HB1.out.trans (HB.out.mono HB1.out.size)⟩
set_option maxHeartbeats 1000000 in
set_option maxRecDepth 100000 in
theorem same_c {q b' n' : Nat} {us : List Nat} (w : World) (h : Is w p b n ws) (h' : Is w q b' n' us) (hT : Bt.Tab w) : Calls Tryd.prog 45 #[.pointer (some ⟨p, 0, none⟩), .pointer (some ⟨q, 0, none⟩)] w fun e w' => e = .returned (.bool (all ws == all us)) ∧ Below w.heap.size w w' := by
  have hlen : ∀ {w : World} {p b n : Nat} {ws : List Nat}, Is w p b n ws → (all ws).length ≤ 65536 := by
    intro w p b n ws h
    have := h.fit.2.1
    unfold all
    refine Nat.le_trans (List.length_filter_le _ _) ?_
    rw [List.length_range]
    omega
  have l1 := hlen h
  have l2 := hlen h'
  have heq : (ints (all ws) == ints (all us)) = (all ws == all us) := by
    by_cases e : all ws = all us
    · rw [e]; simp
    · have e2 : ¬ ints (all ws) = ints (all us) := fun k => e (ints_inj k)
      have k1 : (all ws == all us) = false := by simpa using e
      have k2 : (ints (all ws) == ints (all us)) = false := by simpa using e2
      rw [k1, k2]
  have HE := Lib.hid heq
  clear heq hlen
  go_enter Tryd.func45, Tryd.ntmps45
  go_wp2_with fail
  refine (list_c w h hT).mono ?_
  rintro e w1 ⟨a1, c1, rfl, o1, hb1⟩
  go_wp2_with fail
  refine (list_c w1 (h'.below hb1) (hT.below hb1)).mono ?_
  rintro e w2 ⟨a2, c2, rfl, o2, hb2⟩
  have r1 := (Rd.own o1).keep hb2
  have r2 := Rd.own o2
  have hB2 := hb1.trans (hb2.mono hb1.size)
  have hEq := EqI.equal_n a1 a2 c1 c2 (all ws).length (all us).length (ints (all ws)) (ints (all us)) w2 (ints_len _) (ints_len _) (by omega) (by omega) r1 r2
  rw [HE.out] at hEq
  have HQ := Lib.hid hEq
  have HB := Lib.hid hB2
  clear h h' hT o1 o2 hb1 hb2 r1 r2 hB2 hEq
  go_wp2_with fail
  refine HQ.out.mono ?_
  rintro e w3 ⟨rfl, hb3⟩
  go_wp2
  go_ret
  exact ⟨rfl, HB.out.trans (hb3.mono HB.out.size)⟩
end Mk
end Go.Proofs.YtfkjijjmphbglaaDoor
