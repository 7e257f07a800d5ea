import Derived.Test.YteekonojmpihlaaDoorQSetsR
import Derived.Test.YteekonojmpihlaaDoorQSetsEnds
import Derived.Test.YteekonojmpihlaaDoorQMarks3
import Derived.Test.YteekonojmpihlaaDoorQSetsN
/- The document's lists: dofferref01.List, Spans. -/
namespace Go.Proofs.YteekonojmpihlaaDoor
open Go Go.RowKit Kt
namespace St
open Mk
/-- What the document's lists are made of: a row of one's own, the set in its box. -/
structure Rs (e : TypeId) (k8 : Nat → Value) (w : World) (ws : List Nat) (l : List Nat) (a : Option Addr) (k cap : Nat) (W : World) : Prop where
  len : l.length = k
  own : W.ownsRow (w.heap.size + 1) e 1 (.slice a k cap) k (l.map k8)
  set : W.heap[w.heap.size]? = some (.cells (vals ws).toArray 33 (0, 0))
  below : Below w.heap.size w W
theorem Rs.step {e : TypeId} {k8 : Nat → Value} {w : World} {ws l : List Nat} {a : Option Addr} {k cap : Nat} {W W' : World} (h : Rs e k8 w ws l a k cap W) (hb : Below W.heap.size W W') : Rs e k8 w ws l a k cap W' :=
  ⟨h.len, own_keep h.own hb, (hb.block _ (block_lt h.set)).trans h.set, h.below.trans (hb.mono h.below.size)⟩
theorem Rs.start {e : TypeId} {k8 : Nat → Value} (ws : List Nat) (w : World) : Rs e k8 w ws [] (some ⟨w.heap.size + 1, 0, none⟩) 0 0 ((w.alloc (.cells (vals ws).toArray 33)).alloc (.cells #[] e)) := by
  have hb := (Below.refl w.heap.size w).alloc (Nat.le_refl _) (.cells (vals ws).toArray 33)
  have hs := heap_alloc_new w (.cells (vals ws).toArray 33)
  have own := own_new (w.alloc (.cells (vals ws).toArray 33)) (w.heap.size + 1) e 1 0 #[] (by simp) (by unfold maxLen; omega) rfl
  rw [World.size_alloc] at own
  exact ⟨rfl, own, block_alloc hs, hb.alloc (by simp) _⟩
theorem Rs.cells {e : TypeId} {k8 : Nat → Value} {w : World} {x0 x1 x2 x3 : Nat} {l : List Nat} {a : Option Addr} {k cap : Nat} {W : World} (h : Rs e k8 w [x0, x1, x2, x3] l a k cap W) :
    W.cell? ⟨w.heap.size, 0, none⟩ = some (.int .u64 (x0 : Int)) ∧ W.cell? ⟨w.heap.size, 1, none⟩ = some (.int .u64 (x1 : Int)) ∧ W.cell? ⟨w.heap.size, 2, none⟩ = some (.int .u64 (x2 : Int)) ∧ W.cell? ⟨w.heap.size, 3, none⟩ = some (.int .u64 (x3 : Int)) :=
  ⟨cell_block h.set 0, cell_block h.set 1, cell_block h.set 2, cell_block h.set 3⟩
theorem Rs.push {t e : TypeId} {k8 : Nat → Value} {z : Value} {bytes : Nat} (E : Kt.El Tryd.prog t e z 1 bytes) (hbs : bytes ≤ 8) {w : World} {ws l : List Nat} {a : Option Addr} {k cap : Nat} {W : World} (h : Rs e k8 w ws l a k cap W) (x : Nat) (v : Value) (hx : k8 x = v) (h1 : v.oneCell' = true) (hk : k ≤ 1000) :
    ∃ a2 c2 w2, (Builtin.append_ #[t, t] t #[.slice a k cap, .slice (some ⟨W.heap.size, 0, none⟩) 1 1]).run Tryd.prog (W.alloc (.cells #[v] e)) = .ok (.slice a2 (k + 1) c2) w2 ∧ Rs e k8 w ws (l ++ [x]) a2 (k + 1) c2 w2 := by
  have hB := h.below
  have b2 := (Below.refl W.heap.size W).alloc (Nat.le_refl _) (.cells #[v] e)
  have hkb : (k + 1) * bytes ≤ 1001 * 8 := Nat.mul_le_mul (by omega) hbs
  have hsz := block_lt h.set
  obtain ⟨v', w2, hrun, own2, gr2, _⟩ := E.append (w.heap.size + 1) (ty := t) (own_keep h.own b2) 1 1 rfl (Rd.new W #[v] e (0, 0) [v] rfl) (fun h => by cases h) (by intro u hu; simp at hu; subst hu; exact h1) (by unfold maxLen; omega) (by omega) (by simp; omega)
  obtain ⟨a2, c2, rfl, _, _, _, _⟩ := rd_own own2
  have hg := below_grown (B := w.heap.size + 1) (own_keep h.own b2) gr2 (Nat.le_refl _) (by simp; omega)
  refine ⟨a2, c2, w2, hrun, by rw [List.length_append, h.len]; rfl, ?_, ?_, ?_⟩
  · rw [List.map_append]
    show w2.ownsRow _ _ _ _ _ (l.map k8 ++ [k8 x])
    rw [hx]
    exact own2
  · exact (hg.block _ (Nat.lt_succ_self _)).trans (block_alloc h.set)
  · exact (hB.alloc hB.size _).trans (hg.mono (Nat.le_succ _))
theorem Rs.has {e : TypeId} {k8 : Nat → Value} {w : World} {ws l : List Nat} {a : Option Addr} {k cap : Nat} {W : World} (h : Rs e k8 w ws l a k cap W) {f : Nat → Bool} (hw : IsSet ws f) (q : Nat) (hq : q < 256) (i : Int) (hi : i = (q : Int)) (v : Bool) (hv : f q = v) :
    Calls Tryd.prog 87 #[sv ws, .int .i64 i] W fun e' W' => e' = .returned (.bool v) ∧ Rs e k8 w ws l a k cap W' := by
  subst hi
  subst hv
  refine (rhas_c ws f hw q hq W).mono ?_
  rintro e' W' ⟨rfl, hb⟩
  exact ⟨rfl, h.step hb⟩
def k8 (x : Nat) : Value := .int .u8 (x : Int)
def k64 (x : Nat) : Value := .int .i64 (x : Int)
/-- The loop of List. -/
def LsR (f : Nat → Bool) (w : World) (ws : List Nat) (o i : Value) (W : World) : Prop := ∃ c a k cap, c ≤ 256 ∧ i = .int .i64 ((c : Nat) : Int) ∧ o = .slice a k cap ∧ Rs 5 k8 w ws ((List.range c).filter f) a k cap W
/-- The loop of Spans. -/
def SsR (f : Nat → Bool) (w : World) (ws : List Nat) (o i : Value) (W : World) : Prop := ∃ c a k cap, c ≤ 256 ∧ i = .int .i64 ((c : Nat) : Int) ∧ o = .slice a k cap ∧ Rs 3 k64 w ws (ends f c) a k cap W
theorem filter_le (f : Nat → Bool) (c : Nat) : ((List.range c).filter f).length ≤ c := by
  have := List.length_filter_le f (List.range c)
  rwa [List.length_range] at this
theorem filt_in {f : Nat → Bool} {c : Nat} (h : f c = true) : (List.range (c + 1)).filter f = (List.range c).filter f ++ [c] := by
  rw [List.range_succ, List.filter_append, List.filter_cons_of_pos h, List.filter_nil]
theorem filt_out {f : Nat → Bool} {c : Nat} (h : f c = false) : (List.range (c + 1)).filter f = (List.range c).filter f := by
  rw [List.range_succ, List.filter_append, List.filter_cons_of_neg (by simp [h]), List.filter_nil, List.append_nil]
theorem ends_00 {f : Nat → Bool} {c : Nat} (hf : f c = true) (hA : c = 0 ∨ f (c - 1) = false) (hB : c = 255 ∨ f (c + 1) = false) : ends f (c + 1) = ends f c ++ [c] ++ [c] := by
  rw [ends, atC, if_pos hf, if_pos hA, if_pos hB, List.append_assoc]
theorem ends_01 {f : Nat → Bool} {c : Nat} (hf : f c = true) (hA : c = 0 ∨ f (c - 1) = false) (hB : ¬ (c = 255 ∨ f (c + 1) = false)) : ends f (c + 1) = ends f c ++ [c] := by
  rw [ends, atC, if_pos hf, if_pos hA, if_neg hB, List.append_nil]
theorem ends_10 {f : Nat → Bool} {c : Nat} (hf : f c = true) (hA : ¬ (c = 0 ∨ f (c - 1) = false)) (hB : c = 255 ∨ f (c + 1) = false) : ends f (c + 1) = ends f c ++ [c] := by
  rw [ends, atC, if_pos hf, if_neg hA, if_pos hB, List.nil_append]
theorem ends_11 {f : Nat → Bool} {c : Nat} (hf : f c = true) (hA : ¬ (c = 0 ∨ f (c - 1) = false)) (hB : ¬ (c = 255 ∨ f (c + 1) = false)) : ends f (c + 1) = ends f c := by
  rw [ends, atC, if_pos hf, if_neg hA, if_neg hB, List.append_nil, List.append_nil]
theorem notor {p : Prop} {b : Bool} (h : ¬ p) (hb : b = true) : ¬ (p ∨ b = false) := by rintro (h1 | h1); exact h h1; rw [hb] at h1; cases h1
set_option maxHeartbeats 2000000 in
set_option maxRecDepth 100000 in
theorem rlist_c (ws : List Nat) (f : Nat → Bool) (hw : IsSet ws f) (w : World) : Calls Tryd.prog 85 #[sv ws] w fun e w' => ∃ a k cap, e = .returned (.slice a k cap) ∧ (all ws).length = k ∧ w'.ownsRow (w.heap.size + 1) 5 1 (.slice a k cap) k ((all ws).map k8) ∧ Below w.heap.size w w' := by
  have hall := all_spec hw
  have hrow := all_spec hw
  obtain ⟨x0, x1, x2, x3, hws⟩ := four hw.len
  have h0 := Rs.start (e := 5) (k8 := k8) ws w
  rw [hws] at h0 hw hall ⊢
  have H0 := Lib.hid h0
  have HW := Lib.hid hw
  have HA := Lib.hid hall
  clear h0 hw hall hrow hws
  simp only [sv, vals, List.map_cons, List.map_nil] at H0 ⊢
  go_enter Tryd.func85, Tryd.ntmps85
  go_wp2
  go_loopw [3, 4] (fun o i W => LsR f w [x0, x1, x2, x3] o i W) (fun _ i _ => 256 - (intOf i).toNat)
  case atStart => exact ⟨0, _, 0, 0, by omega, rfl, rfl, H0.out⟩
  case round =>
    clear H0
    obtain ⟨c, a, k, cap, hc, rfl, rfl, hR⟩ := hrel
    by_cases hlt : c < 256
    · obtain ⟨i0, i1, i2, i3⟩ := hR.cells
      have hkc : k ≤ 256 := by have := hR.len; have := filter_le f c; omega
      have hd : decide ((c : Int) < 256) = true := by simp; omega
      have hx8 : (c : Int) % 256 = (c : Int) := by omega
      have HR := Lib.hid hR
      clear hR
      cases hf : f c with
      | true =>
        have HH := Lib.hid (HR.out.has HW.out c hlt (c : Int) rfl true hf)
        have Hf := Lib.hid hf
        clear hf
        simp only [sv, vals, List.map_cons, List.map_nil] at HH
        go_wp2_with fail
        refine HH.out.mono ?_
        rintro e w2 ⟨rfl, hR2⟩
        obtain ⟨a2, c2, w3, hrun, hR3⟩ := hR2.push Num.elU8 (by omega) c (.int .u8 (c : Int)) rfl rfl (by omega)
        rw [← filt_in Hf.out] at hR3
        have HR3 := Lib.hid hR3
        clear hR2 hR3 HR HH
        go_wp2_with (at_builtin; (with_reducible apply wpList_append_run hrun); rfl; rfl; rfl; rfl; rfl)
        go_roundw
        case rel => first | exact ⟨c + 1, a2, k + 1, c2, by omega, by go_num, rfl, HR3.out⟩ | ((repeat apply Exists.intro); refine ⟨?r, ?f⟩; (case f => (and_intros <;> rfl)); exact ⟨c + 1, a2, k + 1, c2, by omega, by go_num, rfl, HR3.out⟩)
        case measure => simp [intOf]; omega
      | false =>
        have HH := Lib.hid (HR.out.has HW.out c hlt (c : Int) rfl false hf)
        have Hf := Lib.hid hf
        clear hf
        simp only [sv, vals, List.map_cons, List.map_nil] at HH
        go_wp2_with fail
        refine HH.out.mono ?_
        rintro e w2 ⟨rfl, hR2⟩
        rw [← filt_out Hf.out] at hR2
        have HR3 := Lib.hid hR2
        clear hR2 HR HH
        go_wp2
        go_roundw
        case rel => first | exact ⟨c + 1, a, k, cap, by omega, by go_num, rfl, HR3.out⟩ | ((repeat apply Exists.intro); refine ⟨?r, ?f⟩; (case f => (and_intros <;> rfl)); exact ⟨c + 1, a, k, cap, by omega, by go_num, rfl, HR3.out⟩)
        case measure => simp [intOf]; omega
    · have hcc : c = 256 := by omega
      subst hcc
      have hd : decide (((256 : Nat) : Int) < 256) = false := by decide
      have HR := Lib.hid hR
      clear hR
      go_wp2
      go_ret
      refine ⟨a, k, cap, rfl, ?_, ?_, HR.out.below⟩
      · rw [HA.out]; exact HR.out.len
      · rw [HA.out]; exact HR.out.own
set_option maxHeartbeats 4000000 in
set_option maxRecDepth 100000 in
theorem rspans_c (ws : List Nat) (f : Nat → Bool) (hw : IsSet ws f) (w : World) : Calls Tryd.prog 119 #[sv ws] w fun e w' => ∃ a k cap, e = .returned (.slice a k cap) ∧ (flat (sps (all ws))).length = k ∧ w'.ownsRow (w.heap.size + 1) 3 1 (.slice a k cap) k ((flat (sps (all ws))).map k64) ∧ Below w.heap.size w w' := by
  have hall : ends f 256 = flat (sps (all ws)) := by rw [ends_all, all_spec hw]
  obtain ⟨x0, x1, x2, x3, hws⟩ := four hw.len
  have h0 := Rs.start (e := 3) (k8 := k64) ws w
  rw [← hall]
  rw [hws] at h0 hw ⊢
  have H0 := Lib.hid h0
  have HW := Lib.hid hw
  clear h0 hw hall hws
  simp only [sv, vals, List.map_cons, List.map_nil] at H0 ⊢
  go_enter Tryd.func119, Tryd.ntmps119
  go_wp2
  go_loopw [3, 4] (fun o i W => SsR f w [x0, x1, x2, x3] o i W) (fun _ i _ => 256 - (intOf i).toNat)
  case atStart => exact ⟨0, _, 0, 0, by omega, rfl, rfl, H0.out⟩
  case round =>
    clear H0
    obtain ⟨c, a, k, cap, hc, rfl, rfl, hR⟩ := hrel
    by_cases hlt : c < 256
    · obtain ⟨i0, i1, i2, i3⟩ := hR.cells
      have hkc : k ≤ 512 := by have := hR.len; have := ends_len f c; omega
      have hd : decide ((c : Int) < 256) = true := by simp; omega
      have hwm : IntKind.i64.wrap ((c : Int) - 1) = (c : Int) - 1 := IntWalk.i64_in _ ⟨by omega, by omega⟩
      have hwp : IntKind.i64.wrap ((c : Int) + 1) = (c : Int) + 1 := IntWalk.i64_in _ ⟨by omega, by omega⟩
      have HR := Lib.hid hR
      clear hR
      cases hf : f c with
      | false =>
        have HH := Lib.hid (HR.out.has HW.out c hlt (c : Int) rfl false hf)
        have he : ends f (c + 1) = ends f c := by rw [ends, atC, hf]; simp
        have He := Lib.hid he
        clear hf he
        simp only [sv, vals, List.map_cons, List.map_nil] at HH
        go_wp2_with fail
        refine HH.out.mono ?_
        rintro e w2 ⟨rfl, hR2⟩
        rw [← He.out] at hR2
        have HR3 := Lib.hid hR2
        clear hR2 HR HH
        go_wp2
        go_roundw
        case rel => first | exact ⟨c + 1, a, k, cap, by omega, by go_num, rfl, HR3.out⟩ | ((repeat apply Exists.intro); refine ⟨?r, ?f⟩; (case f => (and_intros <;> rfl)); exact ⟨c + 1, a, k, cap, by omega, by go_num, rfl, HR3.out⟩)
        case measure => simp [intOf]; omega
      | true =>
        by_cases h0 : c = 0
        · subst h0
          clear hwm hwp hd
          have hd : decide ((0 : Int) < 256) = true := by decide
          have HH := Lib.hid (HR.out.has HW.out 0 (by omega) 0 rfl true hf)
          have Hf := Lib.hid hf
          clear hf
          simp only [sv, vals, List.map_cons, List.map_nil] at HH
          go_wp2_with fail
          refine HH.out.mono ?_
          rintro e w2 ⟨rfl, hR2⟩
          clear HR HH i0 i1 i2 i3
          obtain ⟨i0, i1, i2, i3⟩ := hR2.cells
          obtain ⟨a8, c8, w8, hrun8, hR8⟩ := hR2.push Mk.elI (by omega) 0 (.int .i64 0) rfl rfl (by omega)
          clear hR2 i0 i1 i2 i3
          obtain ⟨i0, i1, i2, i3⟩ := hR8.cells
          cases hg : f 1 with
          | false =>
            have Hg := Lib.hid hg
            have HH := Lib.hid (hR8.has HW.out 1 (by omega) 1 (by omega) false hg)
            clear hg hR8
            simp only [sv, vals, List.map_cons, List.map_nil] at HH
            go_wp2_with (at_builtin; (with_reducible apply wpList_append_run hrun8); rfl; rfl; rfl; rfl; rfl)
            refine HH.out.mono ?_
            rintro e w7 ⟨rfl, hR7⟩
            clear HH
            obtain ⟨a9, c9, w9, hrun9, hR9⟩ := hR7.push Mk.elI (by omega) 0 (.int .i64 0) rfl rfl (by omega)
            clear hR7 i0 i1 i2 i3
            obtain ⟨i0, i1, i2, i3⟩ := hR9.cells
            rw [← ends_00 Hf.out (.inl rfl) (.inr Hg.out)] at hR9
            have HR9 := Lib.hid hR9
            clear hR9 i0 i1 i2 i3
            go_wp2_with (at_builtin; (with_reducible apply wpList_append_run hrun9); rfl; rfl; rfl; rfl; rfl)
            go_roundw
            case rel => first | exact ⟨1, a9, (k + 1) + 1, c9, by omega, by go_num, rfl, HR9.out⟩ | ((repeat apply Exists.intro); refine ⟨?r, ?f⟩; (case f => (and_intros <;> rfl)); exact ⟨1, a9, (k + 1) + 1, c9, by omega, by go_num, rfl, HR9.out⟩)
            case measure => first | (simp [intOf]; done) | (simp [intOf]; omega)
          | true =>
            have Hg := Lib.hid hg
            have HH := Lib.hid (hR8.has HW.out 1 (by omega) 1 (by omega) true hg)
            clear hg hR8
            simp only [sv, vals, List.map_cons, List.map_nil] at HH
            go_wp2_with (at_builtin; (with_reducible apply wpList_append_run hrun8); rfl; rfl; rfl; rfl; rfl)
            refine HH.out.mono ?_
            rintro e w7 ⟨rfl, hR7⟩
            clear HH
            rw [← ends_01 Hf.out (.inl rfl) (notor (by omega) Hg.out)] at hR7
            have HR9 := Lib.hid hR7
            clear hR7 i0 i1 i2 i3
            go_wp2
            go_roundw
            case rel => first | exact ⟨1, a8, (k + 1), c8, by omega, by go_num, rfl, HR9.out⟩ | ((repeat apply Exists.intro); refine ⟨?r, ?f⟩; (case f => (and_intros <;> rfl)); exact ⟨1, a8, (k + 1), c8, by omega, by go_num, rfl, HR9.out⟩)
            case measure => first | (simp [intOf]; done) | (simp [intOf]; omega)
        · by_cases h255 : c = 255
          · subst h255
            clear hwm hwp hd
            have hd : decide ((255 : Int) < 256) = true := by decide
            have HH := Lib.hid (HR.out.has HW.out 255 (by omega) 255 rfl true hf)
            have Hf := Lib.hid hf
            clear hf
            simp only [sv, vals, List.map_cons, List.map_nil] at HH
            go_wp2_with fail
            refine HH.out.mono ?_
            rintro e w2 ⟨rfl, hR2⟩
            clear HR HH i0 i1 i2 i3
            obtain ⟨i0, i1, i2, i3⟩ := hR2.cells
            cases hm : f 254 with
            | false =>
              have Hm := Lib.hid hm
              have HH := Lib.hid (hR2.has HW.out 254 (by omega) 254 (by omega) false hm)
              clear hm hR2
              simp only [sv, vals, List.map_cons, List.map_nil] at HH
              go_wp2_with fail
              refine HH.out.mono ?_
              rintro e w3 ⟨rfl, hR3⟩
              clear HH i0 i1 i2 i3
              obtain ⟨i0, i1, i2, i3⟩ := hR3.cells
              obtain ⟨a8, c8, w8, hrun8, hR8⟩ := hR3.push Mk.elI (by omega) 255 (.int .i64 255) rfl rfl (by omega)
              clear hR3 i0 i1 i2 i3
              obtain ⟨i0, i1, i2, i3⟩ := hR8.cells
              obtain ⟨a9, c9, w9, hrun9, hR9⟩ := hR8.push Mk.elI (by omega) 255 (.int .i64 255) rfl rfl (by omega)
              clear hR8 i0 i1 i2 i3
              obtain ⟨i0, i1, i2, i3⟩ := hR9.cells
              rw [← ends_00 Hf.out (.inr Hm.out) (.inl rfl)] at hR9
              have HR9 := Lib.hid hR9
              clear hR9 i0 i1 i2 i3
              go_wp2_with (first | (at_builtin; (with_reducible apply wpList_append_run hrun8); rfl; rfl; rfl; rfl; rfl) | (at_builtin; (with_reducible apply wpList_append_run hrun9); rfl; rfl; rfl; rfl; rfl))
              go_roundw
              case rel => first | exact ⟨256, a9, (k + 1) + 1, c9, by omega, by go_num, rfl, HR9.out⟩ | ((repeat apply Exists.intro); refine ⟨?r, ?f⟩; (case f => (and_intros <;> rfl)); exact ⟨256, a9, (k + 1) + 1, c9, by omega, by go_num, rfl, HR9.out⟩)
              case measure => first | (simp [intOf]; done) | (simp [intOf]; omega)
            | true =>
              have Hm := Lib.hid hm
              have HH := Lib.hid (hR2.has HW.out 254 (by omega) 254 (by omega) true hm)
              clear hm hR2
              simp only [sv, vals, List.map_cons, List.map_nil] at HH
              go_wp2_with fail
              refine HH.out.mono ?_
              rintro e w3 ⟨rfl, hR3⟩
              clear HH i0 i1 i2 i3
              obtain ⟨i0, i1, i2, i3⟩ := hR3.cells
              obtain ⟨a9, c9, w9, hrun9, hR9⟩ := hR3.push Mk.elI (by omega) 255 (.int .i64 255) rfl rfl (by omega)
              clear hR3 i0 i1 i2 i3
              obtain ⟨i0, i1, i2, i3⟩ := hR9.cells
              rw [← ends_10 Hf.out (notor (by omega) Hm.out) (.inl rfl)] at hR9
              have HR9 := Lib.hid hR9
              clear hR9 i0 i1 i2 i3
              go_wp2_with (at_builtin; (with_reducible apply wpList_append_run hrun9); rfl; rfl; rfl; rfl; rfl)
              go_roundw
              case rel => first | exact ⟨256, a9, k + 1, c9, by omega, by go_num, rfl, HR9.out⟩ | ((repeat apply Exists.intro); refine ⟨?r, ?f⟩; (case f => (and_intros <;> rfl)); exact ⟨256, a9, k + 1, c9, by omega, by go_num, rfl, HR9.out⟩)
              case measure => first | (simp [intOf]; done) | (simp [intOf]; omega)
          · have hz1 : ((c : Int) == 0) = false := by simp; omega
            have hz2 : ((c : Int) == 255) = false := by simp; omega
            have HH := Lib.hid (HR.out.has HW.out c (by omega) (c : Int) rfl true hf)
            have Hf := Lib.hid hf
            clear hf
            simp only [sv, vals, List.map_cons, List.map_nil] at HH
            go_wp2_with fail
            refine HH.out.mono ?_
            rintro e w2 ⟨rfl, hR2⟩
            clear HR HH i0 i1 i2 i3
            obtain ⟨i0, i1, i2, i3⟩ := hR2.cells
            cases hm : f (c - 1) with
            | false =>
              have Hm := Lib.hid hm
              have HH := Lib.hid (hR2.has HW.out (c - 1) (by omega) ((c : Int) - 1) (by omega) false hm)
              clear hm hR2
              simp only [sv, vals, List.map_cons, List.map_nil] at HH
              go_wp2_with fail
              refine HH.out.mono ?_
              rintro e w3 ⟨rfl, hR3⟩
              clear HH i0 i1 i2 i3
              obtain ⟨i0, i1, i2, i3⟩ := hR3.cells
              obtain ⟨a8, c8, w8, hrun8, hR8⟩ := hR3.push Mk.elI (by omega) c (.int .i64 (c : Int)) rfl rfl (by omega)
              clear hR3 i0 i1 i2 i3
              obtain ⟨i0, i1, i2, i3⟩ := hR8.cells
              cases hg : f (c + 1) with
              | false =>
                have Hg := Lib.hid hg
                have HH := Lib.hid (hR8.has HW.out (c + 1) (by omega) ((c : Int) + 1) (by omega) false hg)
                clear hg hR8
                simp only [sv, vals, List.map_cons, List.map_nil] at HH
                go_wp2_with (at_builtin; (with_reducible apply wpList_append_run hrun8); rfl; rfl; rfl; rfl; rfl)
                refine HH.out.mono ?_
                rintro e w7 ⟨rfl, hR7⟩
                clear HH
                obtain ⟨a9, c9, w9, hrun9, hR9⟩ := hR7.push Mk.elI (by omega) c (.int .i64 (c : Int)) rfl rfl (by omega)
                clear hR7 i0 i1 i2 i3
                obtain ⟨i0, i1, i2, i3⟩ := hR9.cells
                rw [← ends_00 Hf.out (.inr Hm.out) (.inr Hg.out)] at hR9
                have HR9 := Lib.hid hR9
                clear hR9 i0 i1 i2 i3
                go_wp2_with (at_builtin; (with_reducible apply wpList_append_run hrun9); rfl; rfl; rfl; rfl; rfl)
                go_roundw
                case rel => first | exact ⟨c + 1, a9, (k + 1) + 1, c9, by omega, by go_num, rfl, HR9.out⟩ | ((repeat apply Exists.intro); refine ⟨?r, ?f⟩; (case f => (and_intros <;> rfl)); exact ⟨c + 1, a9, (k + 1) + 1, c9, by omega, by go_num, rfl, HR9.out⟩)
                case measure => first | (simp [intOf]; done) | (simp [intOf]; omega)
              | true =>
                have Hg := Lib.hid hg
                have HH := Lib.hid (hR8.has HW.out (c + 1) (by omega) ((c : Int) + 1) (by omega) true hg)
                clear hg hR8
                simp only [sv, vals, List.map_cons, List.map_nil] at HH
                go_wp2_with (at_builtin; (with_reducible apply wpList_append_run hrun8); rfl; rfl; rfl; rfl; rfl)
                refine HH.out.mono ?_
                rintro e w7 ⟨rfl, hR7⟩
                clear HH
                rw [← ends_01 Hf.out (.inr Hm.out) (notor (by omega) Hg.out)] at hR7
                have HR9 := Lib.hid hR7
                clear hR7 i0 i1 i2 i3
                go_wp2
                go_roundw
                case rel => first | exact ⟨c + 1, a8, (k + 1), c8, by omega, by go_num, rfl, HR9.out⟩ | ((repeat apply Exists.intro); refine ⟨?r, ?f⟩; (case f => (and_intros <;> rfl)); exact ⟨c + 1, a8, (k + 1), c8, by omega, by go_num, rfl, HR9.out⟩)
                case measure => first | (simp [intOf]; done) | (simp [intOf]; omega)
            | true =>
              have Hm := Lib.hid hm
              have HH := Lib.hid (hR2.has HW.out (c - 1) (by omega) ((c : Int) - 1) (by omega) true hm)
              clear hm hR2
              simp only [sv, vals, List.map_cons, List.map_nil] at HH
              go_wp2_with fail
              refine HH.out.mono ?_
              rintro e w3 ⟨rfl, hR3⟩
              clear HH i0 i1 i2 i3
              obtain ⟨i0, i1, i2, i3⟩ := hR3.cells
              cases hg : f (c + 1) with
              | false =>
                have Hg := Lib.hid hg
                have HH := Lib.hid (hR3.has HW.out (c + 1) (by omega) ((c : Int) + 1) (by omega) false hg)
                clear hg hR3
                simp only [sv, vals, List.map_cons, List.map_nil] at HH
                go_wp2_with fail
                refine HH.out.mono ?_
                rintro e w7 ⟨rfl, hR7⟩
                clear HH
                obtain ⟨a9, c9, w9, hrun9, hR9⟩ := hR7.push Mk.elI (by omega) c (.int .i64 (c : Int)) rfl rfl (by omega)
                clear hR7 i0 i1 i2 i3
                obtain ⟨i0, i1, i2, i3⟩ := hR9.cells
                rw [← ends_10 Hf.out (notor (by omega) Hm.out) (.inr Hg.out)] at hR9
                have HR9 := Lib.hid hR9
                clear hR9 i0 i1 i2 i3
                go_wp2_with (at_builtin; (with_reducible apply wpList_append_run hrun9); rfl; rfl; rfl; rfl; rfl)
                go_roundw
                case rel => first | exact ⟨c + 1, a9, k + 1, c9, by omega, by go_num, rfl, HR9.out⟩ | ((repeat apply Exists.intro); refine ⟨?r, ?f⟩; (case f => (and_intros <;> rfl)); exact ⟨c + 1, a9, k + 1, c9, by omega, by go_num, rfl, HR9.out⟩)
                case measure => first | (simp [intOf]; done) | (simp [intOf]; omega)
              | true =>
                have Hg := Lib.hid hg
                have HH := Lib.hid (hR3.has HW.out (c + 1) (by omega) ((c : Int) + 1) (by omega) true hg)
                clear hg hR3
                simp only [sv, vals, List.map_cons, List.map_nil] at HH
                go_wp2_with fail
                refine HH.out.mono ?_
                rintro e w7 ⟨rfl, hR7⟩
                clear HH
                rw [← ends_11 Hf.out (notor (by omega) Hm.out) (notor (by omega) Hg.out)] at hR7
                have HR9 := Lib.hid hR7
                clear hR7 i0 i1 i2 i3
                go_wp2
                go_roundw
                case rel => first | exact ⟨c + 1, a, k, cap, by omega, by go_num, rfl, HR9.out⟩ | ((repeat apply Exists.intro); refine ⟨?r, ?f⟩; (case f => (and_intros <;> rfl)); exact ⟨c + 1, a, k, cap, by omega, by go_num, rfl, HR9.out⟩)
                case measure => first | (simp [intOf]; done) | (simp [intOf]; omega)
    · have hcc : c = 256 := by omega
      subst hcc
      have hd : decide (((256 : Nat) : Int) < 256) = false := by decide
      have HR := Lib.hid hR
      clear hR
      go_wp2
      go_ret
      exact ⟨a, k, cap, rfl, HR.out.len, HR.out.own, HR.out.below⟩
end St
end Go.Proofs.YteekonojmpihlaaDoor

/- What the queries of sets answer, over definite data. Condition: the table of TrailingZeros64 reads as laid. -/
namespace Go.Proofs.YteekonojmpihlaaDoor
open Go Go.RowKit Kt
namespace St
open Mk
/-- A set's bytes. -/
def bts (ws : List Nat) : List UInt8 := (all ws).map UInt8.ofNat
theorem bts_nat {ws : List Nat} (h : ws.length = 4) : (bts ws).map UInt8.toNat = all ws := by
  unfold bts
  rw [List.map_map]
  have : ∀ x ∈ all ws, (UInt8.toNat ∘ UInt8.ofNat) x = x := fun x hx => by
    have := all_lt hx
    rw [h] at this
    show (UInt8.ofNat x).toNat = x
    simp
    omega
  rw [List.map_congr_left this, List.map_id']
theorem bts_len (ws : List Nat) : (bts ws).length = (all ws).length := by simp [bts]
theorem bts_row {ws : List Nat} (h : ws.length = 4) : (all ws).map k8 = u8s (bts ws) := by
  rw [← bts_nat h, List.map_map]
  rfl
theorem rlist3_c (ws : List Nat) (f : Nat → Bool) (hw : IsSet ws f) (w : World) : Calls Tryd.prog 85 #[sv ws] w fun e W' => ∃ a c, e = .returned (.slice a (bts ws).length c) ∧ Rd W' a (u8s (bts ws)) ∧ Below w.heap.size w W' := by
  refine (rlist_c ws f hw w).mono ?_
  rintro e W' ⟨a, k, c, rfl, hk, hown, hb⟩
  rw [bts_row hw.len] at hown
  obtain rfl : (bts ws).length = k := by rw [bts_len]; exact hk
  exact ⟨a, c, rfl, Rd.own hown, hb⟩
end St
end Go.Proofs.YteekonojmpihlaaDoor
