import Derived.Test.YteekonojmpihlaaDoorQSpellPure
import Derived.Test.YteekonojmpihlaaDoorQBuildM
import Derived.Test.YteekonojmpihlaaDoorRows
import Derived.Test.YteekonojmpihlaaDoorQTreePure
import Derived.LaidEql
import Derived.Stop.Asserts
import Derived.RowKitTokens
import Derived.Laws.Concat
/- The walks of package spell: how a byte is spelled, what is read at a place. Condition where an error is answered: the sentinels read as laid. -/
namespace Go.Proofs.YteekonojmpihlaaDoor
open Go Go.RowKit Kt
namespace Sp
@[local go_sem] theorem mk_get (l : List UInt8) (i : Nat) (h : i < (ByteArray.mk ⟨l⟩).size) : (ByteArray.mk ⟨l⟩)[i]'h = l[i]'h := rfl
theorem idx_run {P : Program} {t : TypeId} (ht : P.underlying t = some .string) (s : ByteArray) (k : IntKind) (i : Int) (n : Nat) (c : UInt8) (hi : i = (n : Int)) (h : s.data.toList[n]? = some c) (w : World) :
    (Instr.index t (.string s) (.int k i)).run P w = .ok (.int .u8 (c.toNat : Int)) w := by
  subst hi
  obtain ⟨⟨l⟩⟩ := s
  have h' : l[n]? = some c := h
  obtain ⟨hl, hc⟩ := List.getElem?_eq_some_iff.1 h'
  have hsz : (ByteArray.mk ⟨l⟩).size = l.length := rfl
  rw [run_index_string _ _ _ _ _ ht, dif_pos ⟨by omega, by rw [hsz]; omega⟩]
  congr 3
  rw [← hc]
  rfl
set_option maxHeartbeats 1000000 in
set_option maxRecDepth 100000 in
theorem slib_c (s : ByteArray) (c : Int) (w : World) : Calls Tryd.prog 148 #[.string s, .int .u8 c] w fun e w' => e = .returned (.int .i64 (Lib.indexByte s.data.toList c.toNat.toUInt8)) ∧ w = w' := by
  go_enter Tryd.func148, Tryd.ntmps148
  go_wp2
  rw [run_callFunc_extern Tryd.func154 (by kernel_rfl) (by kernel_rfl) (by kernel_rfl) (e := Extern.BytealgIndexByte.indexByte) (by kernel_rfl), Lib.run_indexByteString]
  simp only [Result.andThen]
  rw [Oper.upon_value]
  go_wp2
  go_ret
  exact ⟨rfl, rfl⟩
set_option maxRecDepth 100000 in
theorem ix_c (l : List UInt8) (c : UInt8) (k : Int) (hk : Lib.indexByte l c = k) (w : World) : Calls Tryd.prog 141 #[.string (Str l), .int .u8 (c.toNat : Int)] w fun e w' => e = .returned (.int .i64 k) ∧ w = w' := by
  have h := slib_c (Str l) (c.toNat : Int) w
  rw [Str_toList, show ((c.toNat : Int)).toNat.toUInt8 = c by simp, hk] at h
  go_enter Tryd.func141, Tryd.ntmps141
  go_wp2_with fail
  refine h.mono ?_
  rintro e w1 ⟨rfl, rfl⟩
  go_wp2
  go_ret
  exact ⟨rfl, rfl⟩

/-- A row of bytes just laid, as a text. -/
theorem lit_run (w : World) (l : List UInt8) (C : Array Value) (n : Nat) (hC : C.toList = u8s l) (hn : l.length = n) : (convert 129 9 (.slice (some ⟨w.heap.size, 0, none⟩) n n)).run Tryd.prog (w.alloc (.cells C 5)) = .ok (.string (Str l)) (w.alloc (.cells C 5)) := by
  subst hn
  exact str_run (dst := 9) Num.elU8.ht Tryd.underlying5 Tryd.underlying9 (Rd.new w C 5 (0, 0) _ hC) l.length 0

set_option maxHeartbeats 1000000 in
set_option maxRecDepth 100000 in
theorem named_w (no : List UInt8) (c d : UInt8) (k : Int) (hc : c = 10 ∧ d = 110 ∧ k = 0 ∨ c = 9 ∧ d = 116 ∧ k = 1 ∨ c = 13 ∧ d = 114 ∧ k = 2 ∨ c = 32 ∧ d = 115 ∧ k = 3) (w : World) :
    Calls Tryd.prog 126 #[.int .u8 (c.toNat : Int), .string (Str no)] w fun e w' => e = .returned (.string (Str [92, d])) ∧ Below w.heap.size w w' := by
  have hk : Lib.indexByte [10, 9, 13, 32] c = k := by rcases hc with ⟨rfl, rfl, rfl⟩ | ⟨rfl, rfl, rfl⟩ | ⟨rfl, rfl, rfl⟩ | ⟨rfl, rfl, rfl⟩ <;> decide
  have HW := Lib.hid (ix_c [10, 9, 13, 32] c k hk w)
  have hl := lit_run w [92, d] #[.int .u8 92, .int .u8 (d.toNat : Int)] 2 rfl rfl
  have hb := (Below.refl w.heap.size w).alloc (Nat.le_refl _) (.cells #[.int .u8 92, .int .u8 (d.toNat : Int)] 5)
  clear hk
  rcases hc with ⟨rfl, rfl, rfl⟩ | ⟨rfl, rfl, rfl⟩ | ⟨rfl, rfl, rfl⟩ | ⟨rfl, rfl, rfl⟩
  all_goals
    simp only [UInt8.reduceToNat, Int.cast_ofNat_Int] at *
    go_enter Tryd.func126, Tryd.ntmps126
    go_wp2_with fail
    refine HW.out.mono ?_
    rintro e w1 ⟨rfl, rfl⟩
    go_wp2
    go_ret
    exact ⟨rfl, hb⟩

set_option maxHeartbeats 1000000 in
set_option maxRecDepth 100000 in
theorem hex_w (no : List UInt8) (c x y : UInt8) (hk : Lib.indexByte [10, 9, 13, 32] c = -1) (hc : c.toNat < 33 ∨ 126 < c.toNat) (hx : figs[c.toNat / 16]? = some x) (hy : figs[c.toNat % 16]? = some y) (w : World) :
    Calls Tryd.prog 126 #[.int .u8 (c.toNat : Int), .string (Str no)] w fun e w' => e = .returned (.string (Str [92, 120, x, y])) ∧ Below w.heap.size w w' := by
  have HW := Lib.hid (ix_c [10, 9, 13, 32] c _ hk w)
  have hl : (convert 129 9 (.slice (some ⟨w.heap.size, 0, none⟩) 4 4)).run Tryd.prog (w.alloc (.cells #[.int .u8 92, .int .u8 120, .int .u8 (x.toNat : Int), .int .u8 (y.toNat : Int)] 5)).drew = .ok (.string (Str [92, 120, x, y])) (w.alloc (.cells #[.int .u8 92, .int .u8 120, .int .u8 (x.toNat : Int), .int .u8 (y.toNat : Int)] 5)).drew := lit_run w.drew [92, 120, x, y] #[.int .u8 92, .int .u8 120, .int .u8 (x.toNat : Int), .int .u8 (y.toNat : Int)] 4 rfl rfl
  have hb := (Below.refl w.heap.size w).alloc (Nat.le_refl _) (.cells #[.int .u8 92, .int .u8 120, .int .u8 (x.toNat : Int), .int .u8 (y.toNat : Int)] 5)
  have hlt := c.toNat_lt
  generalize c.toNat = n at *
  have ix := fun w => idx_run Tryd.underlying9 (Str figs) .u8 ((n : Int) / 16) (n / 16) x (by omega) hx w
  have iy := fun w => idx_run Tryd.underlying9 (Str figs) .u8 ((n : Int) % 16) (n % 16) y (by omega) hy w
  simp only [Str, figs] at ix iy
  clear hk hx hy
  rcases hc with hc | hc
  all_goals
    go_enter Tryd.func126, Tryd.ntmps126
    go_wp2_with fail
    refine HW.out.mono ?_
    rintro e w1 ⟨rfl, rfl⟩
    go_wp2
    go_region
    go_wp2
    go_ret
    exact ⟨rfl, hb.drew⟩

set_option maxHeartbeats 1000000 in
set_option maxRecDepth 100000 in
theorem plain_w (no : List UInt8) (c : UInt8) (hk : Lib.indexByte [10, 9, 13, 32] c = -1) (hc : ¬ (c.toNat < 33 ∨ 126 < c.toNat)) (w : World) :
    Calls Tryd.prog 126 #[.int .u8 (c.toNat : Int), .string (Str no)] w fun e w' => e = .returned (.string (Str (if no.contains c then [92, c] else [c]))) ∧ Below w.heap.size w w' := by
  have HW := Lib.hid (ix_c [10, 9, 13, 32] c _ hk w)
  have HN := Lib.hid (ix_c no c _ rfl w)
  have hn := no_code no c
  have hg := Lib.indexByte_ge no c
  obtain ⟨j, hj⟩ : ∃ j, Lib.indexByte no c = j := ⟨_, rfl⟩
  rw [hj] at HN hn hg
  have h33 : ¬ ((c.toNat : Int) < 33) := by omega
  have h126 : ¬ (126 < (c.toNat : Int)) := by omega
  have hl2 := lit_run w [92, c] #[.int .u8 92, .int .u8 (c.toNat : Int)] 2 rfl rfl
  have hb2 := (Below.refl w.heap.size w).alloc (Nat.le_refl _) (.cells #[.int .u8 92, .int .u8 (c.toNat : Int)] 5)
  have hl1 := lit_run w [c] #[.int .u8 (c.toNat : Int)] 1 rfl rfl
  have hb1 := (Below.refl w.heap.size w).alloc (Nat.le_refl _) (.cells #[.int .u8 (c.toNat : Int)] 5)
  rw [← hn]
  generalize c.toNat = n at *
  clear hk hn hj hc
  by_cases h : 0 ≤ j
  · have hd : decide (0 ≤ j) = true := by simpa using h
    rw [hd]
    clear hg hl1 hb1 hd
    go_enter Tryd.func126, Tryd.ntmps126
    go_wp2_with fail
    refine HW.out.mono ?_
    rintro e w1 ⟨rfl, rfl⟩
    go_wp2_with fail
    refine HN.out.mono ?_
    rintro e w1 ⟨rfl, rfl⟩
    go_wp2
    go_ret
    exact ⟨rfl, hb2⟩
  · have hd : decide (0 ≤ j) = false := by simpa using h
    have hj : j = -1 := by omega
    subst hj
    rw [hd]
    clear hg hl2 hb2 hd h
    go_enter Tryd.func126, Tryd.ntmps126
    go_wp2_with fail
    refine HW.out.mono ?_
    rintro e w1 ⟨rfl, rfl⟩
    go_wp2_with fail
    refine HN.out.mono ?_
    rintro e w1 ⟨rfl, rfl⟩
    go_wp2
    go_ret
    exact ⟨rfl, hb1⟩
theorem spelled_c (no : List UInt8) (c : UInt8) (w : World) : Calls Tryd.prog 126 #[.int .u8 (c.toNat : Int), .string (Str no)] w fun e w' => e = .returned (.string (Str (sp no c))) ∧ Below w.heap.size w w' := by
  have hk := named_code c
  unfold sp
  by_cases h1 : c = 10
  · rw [if_pos h1]; exact named_w no c 110 0 (.inl ⟨h1, rfl, rfl⟩) w
  · rw [if_neg h1] at hk ⊢
    by_cases h2 : c = 9
    · rw [if_pos h2]; exact named_w no c 116 1 (.inr (.inl ⟨h2, rfl, rfl⟩)) w
    · rw [if_neg h2] at hk ⊢
      by_cases h3 : c = 13
      · rw [if_pos h3]; exact named_w no c 114 2 (.inr (.inr (.inl ⟨h3, rfl, rfl⟩))) w
      · rw [if_neg h3] at hk ⊢
        by_cases h4 : c = 32
        · rw [if_pos h4]; exact named_w no c 115 3 (.inr (.inr (.inr ⟨h4, rfl, rfl⟩))) w
        · rw [if_neg h4] at hk ⊢
          have hlt := c.toNat_lt
          by_cases h5 : c.toNat < 33 ∨ 126 < c.toNat
          · rw [if_pos h5]
            have hf : ∀ n, n < 16 → figs[n]? = some (figs.getD n 0) := by decide
            exact hex_w no c _ _ hk h5 (hf _ (by omega)) (hf _ (by omega)) w
          · rw [if_neg h5]; exact plain_w no c hk h5 w
set_option maxRecDepth 100000 in
theorem plain_c (c : UInt8) (w : World) : Calls Tryd.prog 110 #[.int .u8 (c.toNat : Int)] w fun e w' => e = .returned (.string (Str (sp outs c))) ∧ Below w.heap.size w w' := by
  go_enter Tryd.func110, Tryd.ntmps110
  go_wp2_with fail
  refine (spelled_c outs c w).mono ?_
  rintro e w1 ⟨rfl, hb⟩
  go_wp2
  go_ret
  exact ⟨rfl, hb⟩
set_option maxRecDepth 100000 in
theorem inner_c (c : UInt8) (w : World) : Calls Tryd.prog 144 #[.int .u8 (c.toNat : Int)] w fun e w' => e = .returned (.string (Str (sp ins c))) ∧ Below w.heap.size w w' := by
  go_enter Tryd.func144, Tryd.ntmps144
  go_wp2_with fail
  refine (spelled_c ins c w).mono ?_
  rintro e w1 ⟨rfl, hb⟩
  go_wp2
  go_ret
  exact ⟨rfl, hb⟩

end Sp
end Go.Proofs.YteekonojmpihlaaDoor

/- What spell.Read and the document's Read answer: one function. Condition where an error is answered: the sentinels read as laid. -/
namespace Go.Proofs.YteekonojmpihlaaDoor
open Go Go.RowKit Kt
namespace Sp
theorem drop_get {l : List UInt8} {i : Nat} {x : UInt8} (h : l[i]? = some x) : l.drop i = x :: l.drop (i + 1) := by
  obtain ⟨h1, h2⟩ := List.getElem?_eq_some_iff.1 h
  rw [List.drop_eq_getElem_cons h1, h2]
theorem get_lt {l : List UInt8} {i : Nat} (h : i < l.length) : ∃ x, l[i]? = some x := ⟨l[i], by simp [h]⟩
end Sp
end Go.Proofs.YteekonojmpihlaaDoor

/- The document's spellings: dofferref05. -/
namespace Go.Proofs.YteekonojmpihlaaDoor
open Go Go.RowKit Kt
namespace Sp
/-- Two texts, one behind the other. -/
theorem add_run {P : Program} (w : World) (a b : List UInt8) (h : a.length + b.length ≤ 9223372036854775807) : (Op.stringOp .add (Str a) (Str b)).run P w = .ok (.string (Str (a ++ b))) w := by
  have := run_string_add_sum (P := P) w (Str a) (Str b) (by rw [Str_size, Str_size]; exact h)
  rw [this]
  congr 2
theorem one_run {P : Program} {t : TypeId} (ht : P.underlying t = some .string) (l : List UInt8) (k k' : IntKind) (i j : Int) (n : Nat) (x : UInt8) (hi : i = (n : Int)) (hj : j = (n : Int) + 1) (h : l[n]? = some x) (w : World) :
    (Instr.slice t (.string (Str l)) (some (.int k i)) (some (.int k' j)) none).run P w = .ok (.string (Str [x])) w := by
  subst hi hj
  obtain ⟨h1, _⟩ := List.getElem?_eq_some_iff.1 h
  rw [run_slice_string (P := P) w t (Str l) k k' (n : Int) ((n : Int) + 1) ht (by omega) (by omega) (by rw [Str_size]; omega)]
  congr 2
  rw [Lib.extract_eq, Str_toList, Int.toNat_natCast, drop_get h]
  have e : ((n : Int) + 1).toNat - n = 1 := by omega
  rw [e]
  rfl
set_option maxHeartbeats 1000000 in
set_option maxRecDepth 100000 in
theorem in_c (no : List UInt8) (c : UInt8) (hl : no.length ≤ 1000000) (w : World) : Calls Tryd.prog 138 #[.string (Str no), .int .u8 (c.toNat : Int)] w fun e w' => e = .returned (.bool (no.contains c)) ∧ w = w' := by
  have hsz : (Str no).size = no.length := Str_size no
  have hsl : (Str no).data.toList = no := Str_toList no
  obtain ⟨s, hs⟩ : ∃ s, Str no = s := ⟨_, rfl⟩
  rw [hs] at hsz hsl ⊢
  obtain ⟨n, hn⟩ : ∃ n, s.size = n := ⟨_, rfl⟩
  have hln : no.length = n := by omega
  obtain ⟨r, hr⟩ : ∃ r, no.contains c = r := ⟨_, rfl⟩
  rw [hr]
  have Hr := Lib.hid hr
  clear hr
  have Hl := Lib.hid hsl
  have Hln := Lib.hid hln
  rw [hln] at hl
  clear hs hsl hsz hln
  go_enter Tryd.func138, Tryd.ntmps138
  go_wp2
  go_loop [5] (fun i => ∃ k : Nat, k ≤ n ∧ i = .int .i64 k ∧ (no.take k).contains c = false) (fun i => n - (intOf i).toNat)
  case atStart => exact ⟨0, Nat.zero_le _, rfl, rfl⟩
  case round =>
    obtain ⟨k, hk, rfl, hno⟩ := hrel
    have Hno := Lib.hid hno
    clear hno
    by_cases hlt : k < n
    · obtain ⟨d, hd⟩ := get_lt (l := s.data.toList) (i := k) (by rw [Hl.out, Hln.out]; exact hlt)
      have ix := fun w => idx_run Tryd.underlying9 s .i64 (k : Int) k d rfl hd w
      rw [Hl.out] at hd
      have Hd := Lib.hid hd
      clear hd
      by_cases hdc : d = c
      · subst hdc
        go_wp2
        go_ret
        refine ⟨?_, rfl⟩
        have : no.contains d = true := by
          obtain ⟨h1, h2⟩ := List.getElem?_eq_some_iff.1 Hd.out
          simp
          exact h2 ▸ List.getElem_mem h1
        rw [← Hr.out, this]
        rfl
      · have hne : ((d.toNat : Int) == (c.toNat : Int)) = false := by
          simp
          intro h
          exact hdc (UInt8.toNat_inj.1 (by omega))
        have hnx : (no.take (k + 1)).contains c = false := by
          rw [List.take_add_one, Hd.out, List.contains_eq_any_beq, List.any_append, ← List.contains_eq_any_beq, Hno.out]
          simp
          exact fun h => hdc h.symm
        have Hnx := Lib.hid hnx
        clear hnx hdc
        generalize d.toNat = dn at *
        go_wp2
        go_round
        case rel => exact ⟨k + 1, by omega, by go_num, Hnx.out⟩
        case measure => simp [intOf]; omega
    · have hkn : k = n := by omega
      subst hkn
      go_wp2
      go_ret
      refine ⟨?_, rfl⟩
      have := Hno.out
      rw [List.take_of_length_le (by rw [Hln.out]; exact Nat.le_refl _)] at this
      rw [← Hr.out, this]
      rfl
set_option maxHeartbeats 1000000 in
set_option maxRecDepth 100000 in
theorem hex_c (c x y : UInt8) (hx : figs[c.toNat / 16]? = some x) (hy : figs[c.toNat % 16]? = some y) (w : World) : Calls Tryd.prog 137 #[.int .u8 (c.toNat : Int)] w fun e w' => e = .returned (.string (Str [x, y])) ∧ Below w.heap.size w w' := by
  have hlt := c.toNat_lt
  generalize c.toNat = n at *
  have ix := fun w => one_run Tryd.underlying9 figs .u8 .u8 ((n : Int) / 16) ((n : Int) / 16 + 1) (n / 16) x (by omega) (by omega) hx w
  have iy := fun w => one_run Tryd.underlying9 figs .u8 .u8 ((n : Int) % 16) ((n : Int) % 16 + 1) (n % 16) y (by omega) (by omega) hy w
  have ha := fun w => add_run (P := Tryd.prog) w [x] [y] (by simp)
  simp only [List.cons_append, List.nil_append] at ha
  simp only [Str, figs] at ix iy
  have hw1 : ((n : Int) / 16 + 1) % 256 = (n : Int) / 16 + 1 := by omega
  have hw2 : ((n : Int) % 16 + 1) % 256 = (n : Int) % 16 + 1 := by omega
  have Hb := Lib.hid (Below.refl w.heap.size w)
  clear hx hy
  go_enter Tryd.func137, Tryd.ntmps137
  go_wp2
  go_quiet (fail)
  go_wp2
  go_ret
  exact ⟨rfl, below_drewN Hb.out _⟩

set_option maxHeartbeats 2000000 in
set_option maxRecDepth 100000 in
theorem rspelled_c (no : List UInt8) (c : UInt8) (hl : no.length ≤ 1000000) (w : World) : Calls Tryd.prog 116 #[.int .u8 (c.toNat : Int), .string (Str no)] w fun e w' => e = .returned (.string (Str (sp no c))) ∧ Below w.heap.size w w' := by
  have Hb := Lib.hid (Below.refl w.heap.size w)
  unfold sp
  by_cases h : c = 10 ∨ c = 9 ∨ c = 13 ∨ c = 32
  · rcases h with rfl | rfl | rfl | rfl
    all_goals
      simp only [UInt8.reduceToNat, Int.cast_ofNat_Int]
      go_enter Tryd.func116, Tryd.ntmps116
      go_wp2
      go_ret
      exact ⟨rfl, Hb.out⟩
  · have g1 : c ≠ 10 := fun e => h (.inl e)
    have g2 : c ≠ 9 := fun e => h (.inr (.inl e))
    have g3 : c ≠ 13 := fun e => h (.inr (.inr (.inl e)))
    have g4 : c ≠ 32 := fun e => h (.inr (.inr (.inr e)))
    rw [if_neg g1, if_neg g2, if_neg g3, if_neg g4]
    have hlt := c.toNat_lt
    have k1 : ((c.toNat : Int) == 10) = false := by simp; intro e; exact g1 (UInt8.toNat_inj.1 (by simp; omega))
    have k2 : ((c.toNat : Int) == 9) = false := by simp; intro e; exact g2 (UInt8.toNat_inj.1 (by simp; omega))
    have k3 : ((c.toNat : Int) == 13) = false := by simp; intro e; exact g3 (UInt8.toNat_inj.1 (by simp; omega))
    have k4 : ((c.toNat : Int) == 32) = false := by simp; intro e; exact g4 (UInt8.toNat_inj.1 (by simp; omega))
    have hf : ∀ n, n < 16 → figs[n]? = some (figs.getD n 0) := by decide
    have HX := Lib.hid (hex_c c _ _ (hf (c.toNat / 16) (by omega)) (hf (c.toNat % 16) (by omega)) w)
    have HI := Lib.hid (in_c no c hl w)
    by_cases h5 : c.toNat < 33 ∨ 126 < c.toNat
    · rw [if_pos h5]
      generalize figs.getD (c.toNat / 16) 0 = x at *
      generalize figs.getD (c.toNat % 16) 0 = y at *
      generalize c.toNat = n at *
      have ha := fun w => add_run (P := Tryd.prog) w [92, 120] [x, y] (by simp)
      simp only [List.cons_append, List.nil_append] at ha
      have ha' : ∀ w, (Op.stringOp .add ⟨#[92, 120]⟩ (Str [x, y])).run Tryd.prog w = .ok (.string (Str [92, 120, x, y])) w := ha
      clear h g1 g2 g3 g4 hf ha HI
      rcases h5 with h5 | h5
      all_goals
        go_enter Tryd.func116, Tryd.ntmps116
        go_wp2_with fail
        refine HX.out.mono ?_
        rintro e w1 ⟨rfl, hb1⟩
        go_wp2
        go_ret
        exact ⟨rfl, hb1⟩
    · rw [if_neg h5]
      have h33 : ¬ ((c.toNat : Int) < 33) := by omega
      have h126 : ¬ (126 < (c.toNat : Int)) := by omega
      have hl1 := lit_run w [c] #[.int .u8 (c.toNat : Int)] 1 rfl rfl
      have Hb1 := Lib.hid ((Below.refl w.heap.size w).alloc (Nat.le_refl _) (.cells #[.int .u8 (c.toNat : Int)] 5))
      have ha := fun w => add_run (P := Tryd.prog) w [92] [c] (by simp)
      simp only [List.cons_append, List.nil_append] at ha
      have ha' : ∀ w, (Op.stringOp .add ⟨#[92]⟩ (Str [c])).run Tryd.prog w = .ok (.string (Str [92, c])) w := ha
      clear h g1 g2 g3 g4 hf ha HX h5
      generalize no.contains c = b at *
      generalize c.toNat = n at *
      cases b
      all_goals
        go_enter Tryd.func116, Tryd.ntmps116
        go_wp2_with fail
        refine HI.out.mono ?_
        rintro e w1 ⟨rfl, rfl⟩
        go_wp2
        go_ret
        exact ⟨rfl, Hb1.out⟩
set_option maxRecDepth 100000 in
theorem rplain_c (c : UInt8) (w : World) : Calls Tryd.prog 86 #[.int .u8 (c.toNat : Int)] w fun e w' => e = .returned (.string (Str (sp outs c))) ∧ Below w.heap.size w w' := by
  go_enter Tryd.func86, Tryd.ntmps86
  go_wp2_with fail
  refine (rspelled_c outs c (by decide) w).mono ?_
  rintro e w1 ⟨rfl, hb⟩
  go_wp2
  go_ret
  exact ⟨rfl, hb⟩
set_option maxRecDepth 100000 in
theorem rinner_c (c : UInt8) (w : World) : Calls Tryd.prog 120 #[.int .u8 (c.toNat : Int)] w fun e w' => e = .returned (.string (Str (sp ins c))) ∧ Below w.heap.size w w' := by
  go_enter Tryd.func120, Tryd.ntmps120
  go_wp2_with fail
  refine (rspelled_c ins c (by decide) w).mono ?_
  rintro e w1 ⟨rfl, hb⟩
  go_wp2
  go_ret
  exact ⟨rfl, hb⟩

end Sp
end Go.Proofs.YteekonojmpihlaaDoor
