import Derived.Test.YtoeeddfinmfnoaaDoorQSpellPure
import Derived.Test.YtoeeddfinmfnoaaDoorRows
import Derived.Test.YtoeeddfinmfnoaaDoorQTreePure
import Derived.Test.YtoeeddfinmfnoaaDoorQNmEe
/- The walks of package spell: how a byte is spelled, what is read at a place. Condition where an error is answered: the sentinels read as laid. -/
namespace Go.Proofs.YtoeeddfinmfnoaaDoor
namespace Kt
end Kt
open Go Go.RowKit Kt
namespace Sp
@[local go_sem] theorem mk_get (l : List UInt8) (i : Nat) (h : i < (ByteArray.mk ⟨l⟩).size) : (ByteArray.mk ⟨l⟩)[i]'h = l[i]'h := rfl
theorem idx_run {P : Program} {t : TypeId} (ht : P.underlying t = some .string) (s : ByteArray) (k : IntKind) (i : Int) (n : Nat) (c : UInt8) (hi : i = (n : Int)) (h : s.data.toList[n]? = some c) (w : World) :
    (Instr.index t (.string s) (.int k i)).run P w = .ok (.int .u8 (c.toNat : Int)) w := by
  subst hi
  obtain ⟨⟨l⟩⟩ := s
  have h' : l[n]? = some c := h
  obtain ⟨hl, hc⟩ := List.getElem?_eq_some_iff.1 h'
  have hsz : (ByteArray.mk ⟨l⟩).size = l.length := rfl
  rw [run_index_string _ _ _ _ _ ht, dif_pos ⟨by omega, by rw [hsz]; omega⟩]
  congr 3
  rw [← hc]
  rfl
set_option maxHeartbeats 1000000 in
set_option maxRecDepth 100000 in
theorem slib_c (s : ByteArray) (c : Int) (w : World) : Calls Tryd.prog 148 #[.string s, .int .u8 c] w fun e w' => e = .returned (.int .i64 (Lib.indexByte s.data.toList c.toNat.toUInt8)) ∧ w = w' := by
  go_enter Tryd.func148, Tryd.ntmps148
  go_wp2
  rw [run_callFunc_extern Tryd.func158 (by kernel_rfl) (by kernel_rfl) (by kernel_rfl) (e := Extern.BytealgIndexByte.indexByte) (by kernel_rfl), Lib.run_indexByteString]
  simp only [Result.andThen]
  rw [Oper.upon_value]
  go_wp2
  go_ret
  exact ⟨rfl, rfl⟩
set_option maxRecDepth 100000 in
theorem ix_c (l : List UInt8) (c : UInt8) (k : Int) (hk : Lib.indexByte l c = k) (w : World) : Calls Tryd.prog 133 #[.string (Str l), .int .u8 (c.toNat : Int)] w fun e w' => e = .returned (.int .i64 k) ∧ w = w' := by
  have h := slib_c (Str l) (c.toNat : Int) w
  rw [Str_toList, show ((c.toNat : Int)).toNat.toUInt8 = c by simp, hk] at h
  go_enter Tryd.func133, Tryd.ntmps133
  go_wp2_with fail
  refine h.mono ?_
  rintro e w1 ⟨rfl, rfl⟩
  go_wp2
  go_ret
  exact ⟨rfl, rfl⟩

set_option maxHeartbeats 1000000 in
set_option maxRecDepth 100000 in
theorem mark_c (c : UInt8) (w : World) : Calls Tryd.prog 161 #[.int .u8 (c.toNat : Int)] w fun e w' => e = .returned (.bool (mark c)) ∧ w = w' := by
  have hc := c.toNat_lt
  unfold mark
  generalize c.toNat = n at *
  go_enter Tryd.func161, Tryd.ntmps161
  go_wp2
  all_goals (go_ret; exact ⟨by first | rfl | (refine congrArg (fun b => Ending.returned (Value.bool b)) ?_; rw [Bool.eq_iff_iff]; simp; omega), rfl⟩)

set_option maxHeartbeats 1000000 in
set_option maxRecDepth 100000 in
theorem figure_c (c : UInt8) (w : World) : Calls Tryd.prog 166 #[.int .u8 (c.toNat : Int)] w fun e w' => e = .returned (.tuple #[.int .i64 (fig c), .bool (decide (0 ≤ fig c))]) ∧ w = w' := by
  have hf := fig_code c
  by_cases h : 65 ≤ c.toNat ∧ c.toNat ≤ 70
  · rw [if_pos h] at hf
    obtain ⟨h1, h2⟩ := h
    have hw := ix_c figs (c + 32) _ hf w
    have e : (c + 32).toNat = c.toNat + 32 := by rw [UInt8.toNat_add]; simp; omega
    rw [e] at hw
    have e2 : ((c.toNat + 32 : Nat) : Int) = (c.toNat : Int) + 32 := by omega
    rw [e2] at hw
    have HW := Lib.hid hw
    clear hf hw e e2
    generalize fig c = k at *
    generalize c.toNat = n at *
    go_enter Tryd.func166, Tryd.ntmps166
    go_wp2_with fail
    refine HW.out.mono ?_
    rintro e w1 ⟨rfl, rfl⟩
    go_wp2
    go_ret2
    exact ⟨rfl, rfl⟩
  · rw [if_neg h] at hf
    have HW := Lib.hid (ix_c figs c _ hf w)
    clear hf
    have hlt := c.toNat_lt
    generalize fig c = k at *
    generalize c.toNat = n at *
    by_cases h1 : 65 ≤ n
    · have h2 : ¬ n ≤ 70 := fun h2 => h ⟨h1, h2⟩
      clear h
      go_enter Tryd.func166, Tryd.ntmps166
      go_wp2_with fail
      refine HW.out.mono ?_
      rintro e w1 ⟨rfl, rfl⟩
      go_wp2
      go_ret2
      exact ⟨rfl, rfl⟩
    · clear h
      go_enter Tryd.func166, Tryd.ntmps166
      go_wp2_with fail
      refine HW.out.mono ?_
      rintro e w1 ⟨rfl, rfl⟩
      go_wp2
      go_ret2
      exact ⟨rfl, rfl⟩

end Sp
end Go.Proofs.YtoeeddfinmfnoaaDoor

/- What spell.Read and the document's Read answer: one function. Condition where an error is answered: the sentinels read as laid. -/
namespace Go.Proofs.YtoeeddfinmfnoaaDoor
open Go Go.RowKit Kt
namespace Sp
/-- The errors that package spell answers. -/
def spks : List Nat := [4, 0]
/-- An error by its number. -/
def evn (A : Nat → Addr) (g : Nat) : Value := if g = 0 then .nilIface else if g = 2 then Er.ev A 4 else Er.ev A 0
def resR (A : Nat → Addr) (r : Int × Nat × Nat) : Value := .tuple #[.int .u8 r.1, .int .i64 (r.2.1 : Int), evn A r.2.2]
/-- Two figures at place i, 't' being what stands there. -/
def prt (i : Nat) : List UInt8 → Int × Nat × Nat
  | [] => (0, i, 2)
  | x :: v => if fig x < 0 then (0, i, 4) else match v with
    | [] => (0, i + 1, 2)
    | y :: _ => if fig y < 0 then (0, i + 1, 4) else (16 * fig x + fig y, i + 2, 0)
theorem fig_bad {x : UInt8} (h : fig x < 0) (w : World) : Calls Tryd.prog 166 #[.int .u8 (x.toNat : Int)] w fun e w' => e = .returned (.tuple #[.int .i64 (-1), .bool false]) ∧ w = w' := by
  have := fig_le x
  have e : fig x = -1 := by omega
  have := figure_c x w
  rw [e] at this
  exact this
theorem fig_good {x : UInt8} {k : Nat} (h : fig x = (k : Int)) (w : World) : Calls Tryd.prog 166 #[.int .u8 (x.toNat : Int)] w fun e w' => e = .returned (.tuple #[.int .i64 (k : Int), .bool true]) ∧ w = w' := by
  have := figure_c x w
  rw [h, show decide (0 ≤ (k : Int)) = true by simp] at this
  exact this
theorem drop_get {l : List UInt8} {i : Nat} {x : UInt8} (h : l[i]? = some x) : l.drop i = x :: l.drop (i + 1) := by
  obtain ⟨h1, h2⟩ := List.getElem?_eq_some_iff.1 h
  rw [List.drop_eq_getElem_cons h1, h2]
theorem get_lt {l : List UInt8} {i : Nat} (h : i < l.length) : ∃ x, l[i]? = some x := ⟨l[i], by simp [h]⟩
theorem size_list (s : ByteArray) : s.size = s.data.toList.length := by obtain ⟨⟨l⟩⟩ := s; rfl

set_option maxHeartbeats 2000000 in
set_option maxRecDepth 100000 in
theorem pair_c (A : Nat → Addr) (s : ByteArray) (i : Nat) (hsz : s.size ≤ 1000000) (hi : i ≤ s.size) (w : World) (hs : Sent 204 w A spks) :
    Calls Tryd.prog 160 #[.string s, .int .i64 i] w fun e w' => e = .returned (resR A (prt i (s.data.toList.drop i))) ∧ Below w.heap.size w w' := by
  have e2 := hs.cell 4 (by simp [spks])
  have e4 := hs.cell 0 (by simp [spks])
  have hb := Below.refl w.heap.size w
  have hsl := size_list s
  by_cases h0 : i < s.size
  · obtain ⟨x, hx⟩ := get_lt (l := s.data.toList) (i := i) (by omega)
    have ix := fun w => idx_run Tryd.underlying9 s .i64 (i : Int) i x rfl hx w
    rw [drop_get hx]
    by_cases hfx : fig x < 0
    · have HR := Lib.hid (show prt i (x :: s.data.toList.drop (i + 1)) = (0, i, 4) by simp [prt, hfx])
      have HX := Lib.hid (fig_bad hfx)
      have Hb := Lib.hid hb
      clear hb hsl hfx hs hx
      go_enter Tryd.func160, Tryd.ntmps160
      go_wp2
      refine wp_loop_rounds 3 ?_
      rw [rounds_succ]
      go_wp2_with fail
      refine (HX.out _).mono ?_
      rintro e w1 ⟨rfl, rfl⟩
      go_wp2_with fail
      go_quiet (fail)
      go_wp2
      go_ret3
      exact ⟨by rw [HR.out]; rfl, below_drewN Hb.out _⟩
    · obtain ⟨fx, hfx'⟩ : ∃ fx : Nat, fig x = (fx : Int) := ⟨(fig x).toNat, by omega⟩
      have hfx15 := (fig_le x).2
      rw [hfx'] at hfx15
      by_cases h1 : i + 1 < s.size
      · obtain ⟨y, hy⟩ := get_lt (l := s.data.toList) (i := i + 1) (by omega)
        have iy := fun w => idx_run Tryd.underlying9 s .i64 ((i : Int) + 1) (i + 1) y (by omega) hy w
        rw [drop_get hy]
        by_cases hfy : fig y < 0
        · have HR := Lib.hid (show prt i (x :: y :: s.data.toList.drop (i + 1 + 1)) = (0, i + 1, 4) by simp [prt, hfx, hfy])
          have HX := Lib.hid (fig_good hfx')
          have HY := Lib.hid (fig_bad hfy)
          have Hb := Lib.hid hb
          clear hb hsl hfx hfx' hfy hs hx hy
          go_enter Tryd.func160, Tryd.ntmps160
          go_wp2
          refine wp_loop_rounds 3 ?_
          rw [rounds_succ]
          go_wp2_with fail
          refine (HX.out _).mono ?_
          rintro e w1 ⟨rfl, rfl⟩
          go_wp2_with fail
          rw [rounds_succ]
          go_wp2_with fail
          refine (HY.out _).mono ?_
          rintro e w1 ⟨rfl, rfl⟩
          go_wp2_with fail
          go_quiet (fail)
          go_wp2
          go_ret3
          exact ⟨by rw [HR.out]; first | rfl | simp [resR, evn], below_drewN Hb.out _⟩
        · obtain ⟨fy, hfy'⟩ : ∃ fy : Nat, fig y = (fy : Int) := ⟨(fig y).toNat, by omega⟩
          have hfy15 := (fig_le y).2
          rw [hfy'] at hfy15
          have HR := Lib.hid (show prt i (x :: y :: s.data.toList.drop (i + 1 + 1)) = (16 * (fx : Int) + fy, i + 2, 0) by simp only [prt, if_neg hfx, if_neg hfy]; rw [hfx', hfy'])
          have HX := Lib.hid (fig_good hfx')
          have HY := Lib.hid (fig_good hfy')
          have Hb := Lib.hid hb
          have hw1 : (16 * (fx : Int) + (fy : Int)) % 256 = 16 * (fx : Int) + fy := by omega
          clear hb hsl hfx hfx' hfy hfy' hs hx hy
          go_enter Tryd.func160, Tryd.ntmps160
          go_wp2
          refine wp_loop_rounds 3 ?_
          rw [rounds_succ]
          go_wp2_with fail
          refine (HX.out _).mono ?_
          rintro e w1 ⟨rfl, rfl⟩
          go_wp2_with fail
          rw [rounds_succ]
          go_wp2_with fail
          refine (HY.out _).mono ?_
          rintro e w1 ⟨rfl, rfl⟩
          go_wp2_with fail
          rw [rounds_succ]
          go_wp2
          go_ret3
          exact ⟨by rw [HR.out]; first | rfl | (simp [resR, evn]; omega), Hb.out⟩
      · have hnil : s.data.toList.drop (i + 1) = [] := List.drop_eq_nil_of_le (by omega)
        have HR := Lib.hid (show prt i (x :: s.data.toList.drop (i + 1)) = (0, i + 1, 2) by rw [hnil]; simp [prt, hfx])
        have HX := Lib.hid (fig_good hfx')
        have Hb := Lib.hid hb
        clear hb hsl hfx hfx' hs hx hnil
        go_enter Tryd.func160, Tryd.ntmps160
        go_wp2
        refine wp_loop_rounds 3 ?_
        rw [rounds_succ]
        go_wp2_with fail
        refine (HX.out _).mono ?_
        rintro e w1 ⟨rfl, rfl⟩
        go_wp2_with fail
        rw [rounds_succ]
        go_wp2_with fail
        go_quiet (fail)
        go_wp2
        go_ret3
        exact ⟨by rw [HR.out]; first | rfl | simp [resR, evn], below_drewN Hb.out _⟩
  · have hnil : s.data.toList.drop i = [] := List.drop_eq_nil_of_le (by omega)
    rw [hnil]
    have Hb := Lib.hid hb
    clear hb hsl hnil hs
    go_enter Tryd.func160, Tryd.ntmps160
    go_wp2
    refine wp_loop_rounds 3 ?_
    rw [rounds_succ]
    go_wp2_with fail
    go_quiet (fail)
    go_wp2
    go_ret3
    exact ⟨rfl, below_drewN Hb.out _⟩

theorem rdt_pair (n i : Nat) (t : List UInt8) (h : i + 2 + t.length = n) : rdt n i (92 :: 120 :: t) = prt (i + 2) t := by
  match t with
  | [] => simp [rdt, prt]; simp at h; omega
  | [x] => simp [rdt, prt]; simp at h; split <;> simp <;> omega
  | x :: y :: v => simp [rdt, prt]
set_option maxHeartbeats 2000000 in
set_option maxRecDepth 100000 in
theorem read_c (A : Nat → Addr) (s : ByteArray) (i : Nat) (hsz : s.size ≤ 1000000) (w : World) (hs : Sent 204 w A spks) :
    Calls Tryd.prog 152 #[.string s, .int .i64 i] w fun e w' => e = .returned (resR A (rd s.data.toList i)) ∧ Below w.heap.size w w' := by
  have e2 := hs.cell 4 (by simp [spks])
  have e4 := hs.cell 0 (by simp [spks])
  have hb := Below.refl w.heap.size w
  have hsl := size_list s
  unfold rd
  rw [← hsl]
  by_cases h0 : i < s.size
  · obtain ⟨c, hc⟩ := get_lt (l := s.data.toList) (i := i) (by omega)
    have ix := fun w => idx_run Tryd.underlying9 s .i64 (i : Int) i c rfl hc w
    rw [drop_get hc]
    by_cases h92 : c = 92
    · subst h92
      simp only [UInt8.reduceToNat, Int.cast_ofNat_Int] at ix
      by_cases h1 : i + 1 < s.size
      · obtain ⟨d, hd⟩ := get_lt (l := s.data.toList) (i := i + 1) (by omega)
        have iy := fun w => idx_run Tryd.underlying9 s .i64 ((i : Int) + 1) (i + 1) d (by omega) hd w
        rw [drop_get hd]
        have hk := names_code d
        by_cases he : d = 110 ∨ d = 116 ∨ d = 114 ∨ d = 115
        · have Hb := Lib.hid hb
          clear hb hsl hs hc hd
          rcases he with rfl | rfl | rfl | rfl
          all_goals
            simp only [UInt8.reduceToNat, Int.cast_ofNat_Int] at iy
            have HX := Lib.hid (ix_c [110, 116, 114, 115] _ _ hk w)
            simp only [UInt8.reduceToNat, Int.cast_ofNat_Int] at HX
            clear hk
            go_enter Tryd.func152, Tryd.ntmps152
            go_wp2_with fail
            refine HX.out.mono ?_
            rintro e w1 ⟨rfl, rfl⟩
            go_wp2
            go_ret3
            exact ⟨rfl, Hb.out⟩
        · have g1 : d ≠ 110 := fun h => he (.inl h)
          have g2 : d ≠ 116 := fun h => he (.inr (.inl h))
          have g3 : d ≠ 114 := fun h => he (.inr (.inr (.inl h)))
          have g4 : d ≠ 115 := fun h => he (.inr (.inr (.inr h)))
          rw [if_neg g1, if_neg g2, if_neg g3, if_neg g4] at hk
          have HX := Lib.hid (ix_c [110, 116, 114, 115] _ _ hk w)
          by_cases h120 : d = 120
          · subst h120
            rw [rdt_pair _ _ _ (by rw [List.length_drop]; omega)]
            have HP := Lib.hid (pair_c A s (i + 2) hsz (by omega) w hs)
            rw [show i + 1 + 1 = i + 2 by omega]
            simp only [UInt8.reduceToNat, Int.cast_ofNat_Int] at iy HX
            obtain ⟨r, hr⟩ : ∃ r, prt (i + 2) (s.data.toList.drop (i + 2)) = r := ⟨_, rfl⟩
            rw [hr] at HP ⊢
            rw [show ((i + 2 : Nat) : Int) = (i : Int) + 2 by omega] at HP
            clear hr hk g1 g2 g3 g4 he hb hsl hs hc hd
            unfold resR at HP ⊢
            go_enter Tryd.func152, Tryd.ntmps152
            go_wp2_with fail
            refine HX.out.mono ?_
            rintro e w1 ⟨rfl, rfl⟩
            go_wp2_with fail
            refine HP.out.mono ?_
            rintro e w1 ⟨rfl, hb1⟩
            go_wp2
            go_ret3
            exact ⟨rfl, hb1⟩
          · have h120' : ((d.toNat : Int) == 120) = false := by
              simp
              intro h
              exact h120 (UInt8.toNat_inj.1 (by simp; omega))
            have HM := Lib.hid (mark_c d w)
            have HR : rdt s.size i (92 :: d :: s.data.toList.drop (i + 1 + 1)) = if mark d then ((d.toNat : Int), i + 2, 0) else (0, i + 1, 4) := by simp [rdt, g1, g2, g3, g4, h120]
            rw [HR]
            have Hb := Lib.hid hb
            clear HR hk g1 g2 g3 g4 he hb hsl hs hc hd h120
            generalize mark d = m at *
            generalize d.toNat = dn at *
            cases m
            · go_enter Tryd.func152, Tryd.ntmps152
              go_wp2_with fail
              refine HX.out.mono ?_
              rintro e w1 ⟨rfl, rfl⟩
              go_wp2_with fail
              refine HM.out.mono ?_
              rintro e w1 ⟨rfl, rfl⟩
              go_wp2_with fail
              go_quiet (fail)
              go_wp2
              go_ret3
              exact ⟨rfl, below_drewN Hb.out _⟩
            · go_enter Tryd.func152, Tryd.ntmps152
              go_wp2_with fail
              refine HX.out.mono ?_
              rintro e w1 ⟨rfl, rfl⟩
              go_wp2_with fail
              refine HM.out.mono ?_
              rintro e w1 ⟨rfl, rfl⟩
              go_wp2
              go_ret3
              exact ⟨rfl, Hb.out⟩
      · have hnil : s.data.toList.drop (i + 1) = [] := List.drop_eq_nil_of_le (by omega)
        rw [hnil]
        have Hb := Lib.hid hb
        clear hb hsl hs hc hnil
        go_enter Tryd.func152, Tryd.ntmps152
        go_wp2_with fail
        go_quiet (fail)
        go_wp2
        go_ret3
        exact ⟨rfl, below_drewN Hb.out _⟩
    · have h92' : ((c.toNat : Int) == 92) = false := by
        simp
        intro h
        exact h92 (UInt8.toNat_inj.1 (by simp; omega))
      have HR : rdt s.size i (c :: s.data.toList.drop (i + 1)) = ((c.toNat : Int), i + 1, 0) := by rw [rdt.eq_def]; simp [h92]
      rw [HR]
      have Hb := Lib.hid hb
      clear hb hsl hs hc HR h92
      generalize c.toNat = n at *
      go_enter Tryd.func152, Tryd.ntmps152
      go_wp2
      go_ret3
      exact ⟨rfl, Hb.out⟩
  · have hnil : s.data.toList.drop i = [] := List.drop_eq_nil_of_le (by omega)
    rw [hnil]
    have Hb := Lib.hid hb
    clear hb hsl hnil hs
    go_enter Tryd.func152, Tryd.ntmps152
    go_wp2_with fail
    go_quiet (fail)
    go_wp2
    go_ret3
    exact ⟨rfl, below_drewN Hb.out _⟩
end Sp
end Go.Proofs.YtoeeddfinmfnoaaDoor

/- tree.IsName and dofferref07.IsName: right names. -/
namespace Go.Proofs.YtoeeddfinmfnoaaDoor
open Go Go.RowKit Kt Sp
namespace Ac
theorem nmAll_snoc : ∀ (l : List UInt8) (i : Nat) (c : UInt8), nmAll i (l ++ [c]) = (nmAll i l && nmAt (i + l.length) c)
  | [], i, c => by simp [nmAll]
  | x :: l, i, c => by
    rw [List.cons_append, nmAll, nmAll, nmAll_snoc l (i + 1) c, Bool.and_assoc, List.length_cons, show i + 1 + l.length = i + (l.length + 1) by omega]
theorem nmAll_take {l : List UInt8} {k : Nat} {c : UInt8} (h : l[k]? = some c) : nmAll 0 (l.take (k + 1)) = (nmAll 0 (l.take k) && nmAt k c) := by
  obtain ⟨hk, rfl⟩ := List.getElem?_eq_some_iff.1 h
  rw [List.take_succ_eq_append_getElem hk, nmAll_snoc, List.length_take, Nat.zero_add, Nat.min_eq_left (by omega)]
theorem nmAll_split {l : List UInt8} (k : Nat) : nmAll 0 l = true → nmAll 0 (l.take k) = true := by
  intro h
  have : ∀ (a b : List UInt8) (i : Nat), nmAll i (a ++ b) = true → nmAll i a = true := by
    intro a
    induction a with
    | nil => intro b i _; rfl
    | cons x a ih =>
      intro b i h
      simp only [List.cons_append, nmAll, Bool.and_eq_true] at h ⊢
      exact ⟨h.1, ih b _ h.2⟩
  have e := List.take_append_drop k l
  rw [← e] at h
  exact this _ _ _ h
theorem nm_bad {l : List UInt8} {k : Nat} (h : nmAll 0 (l.take k) = false) : nm l = false := by
  cases hn : nmAll 0 l with
  | false => simp [nm, hn]
  | true => rw [nmAll_split k hn] at h; cases h
theorem str_nil (l : List UInt8) : ((Str l).toList == []) = decide (l = []) := by
  rw [Str_list]
  cases l <;> simp
theorem str_nil' (l : List UInt8) : ((Str l).toList = []) = (l = []) := by rw [Str_list]
theorem str_emp (l : List UInt8) : (Str l).toList.isEmpty = decide (l = []) := by
  rw [Str_list]
  cases l <;> simp
theorem str_get (l : List UInt8) (s : ByteArray) (hs : Str l = s) (k : Nat) (h : k < s.size) : l[k]? = some s[k] := by
  subst hs
  have hk : k < l.length := by rw [← Str_size]; exact h
  rw [List.getElem?_eq_getElem hk]
  simp [Str, ByteArray.getElem_eq_getElem_data]
set_option maxHeartbeats 2000000 in
set_option maxRecDepth 100000 in
theorem isname_c (l : List UInt8) (hl : l.length ≤ 9223372036854775807) (w : World) : Calls Tryd.prog 84 #[.string (Str l)] w fun e w' => e = .returned (.bool (nm l)) ∧ w = w' := by
  have hsz := Str_size l
  have e1 := str_nil l
  have e2 := str_emp l
  have e3 := str_nil' l
  obtain ⟨s, hs⟩ : ∃ s, Str l = s := ⟨_, rfl⟩
  have hg := str_get l s hs
  rw [hs] at e1 e2 e3 hsz ⊢
  have hsl : s.size ≤ 9223372036854775807 := by omega
  have HS := Lib.hid hsz
  have HG := Lib.hid hg
  have HE := Lib.hid (And.intro e1 (And.intro e2 e3))
  clear hsz hg e1 e2 e3 hs
  go_enter Tryd.func84, Tryd.ntmps84
  go_wp2
  go_loop [3, 4, 7] (fun _ _ i => ∃ k : Nat, k ≤ s.size ∧ i = .int .i64 k ∧ nmAll 0 (l.take k) = true) (fun _ _ i => s.size - (intOf i).toNat)
  case atStart => exact ⟨0, Nat.zero_le _, rfl, rfl⟩
  case round =>
    obtain ⟨k, hk, rfl, hn⟩ := hrel
    have HN := Lib.hid hn
    clear hn
    by_cases hlt : k < s.size
    · have hnx := nmAll_take (HG.out k hlt)
      rw [HN.out, Bool.true_and] at hnx
      have hbad : nmAt k s[k] = false → nm l = false := fun h => nm_bad (k := k + 1) (by rw [hnx]; exact h)
      have hat : nmAt k s[k] = ((decide (97 ≤ (s[k].toNat : Int)) && decide ((s[k].toNat : Int) ≤ 122)) || (decide (0 < k) && (decide (48 ≤ (s[k].toNat : Int)) && decide ((s[k].toNat : Int) ≤ 57)))) := by
        rw [Bool.eq_iff_iff]
        simp only [nmAt, isLet, isDig, Bool.or_eq_true, Bool.and_eq_true, decide_eq_true_eq]
        omega
      have HX := Lib.hid hnx
      have HB := Lib.hid hbad
      have HA := Lib.hid hat
      clear hnx hbad hat
      by_cases h3 : k = 0
      · subst h3
        go_wp2
        all_goals first
          | (go_ret
             refine ⟨by rw [HB.out (by rw [HA.out, Bool.eq_false_iff]; simp only [ne_eq, Bool.or_eq_true, Bool.and_eq_true, decide_eq_true_eq]; simp at *; omega)]; rfl, rfl⟩)
          | (go_round
             case rel => exact ⟨0 + 1, by omega, by go_num, by rw [HX.out, HA.out]; simp only [Bool.or_eq_true, Bool.and_eq_true, decide_eq_true_eq]; simp at *; omega⟩
             case measure => simp [intOf]; omega)
      · go_wp2
        all_goals first
          | (go_ret
             refine ⟨by rw [HB.out (by rw [HA.out, Bool.eq_false_iff]; simp only [ne_eq, Bool.or_eq_true, Bool.and_eq_true, decide_eq_true_eq]; simp at *; omega)]; rfl, rfl⟩)
          | (go_round
             case rel => exact ⟨k + 1, by omega, by go_num, by rw [HX.out, HA.out]; simp only [Bool.or_eq_true, Bool.and_eq_true, decide_eq_true_eq]; simp at *; omega⟩
             case measure => simp [intOf]; omega)
    · have hke : k = l.length := by rw [← HS.out]; omega
      have hall : nmAll 0 l = true := by have := HN.out; rw [hke, List.take_length] at this; exact this
      have hnm : nm l = (decide (l ≠ []) && decide (l.length ≤ 12)) := by unfold nm; rw [hall, Bool.true_and]
      have HM := Lib.hid hnm
      clear hnm hall
      have hsz := HS.out
      obtain ⟨e1, e2, e3⟩ := HE.out
      have hke' : k = s.size := by omega
      clear hke hk hlt
      subst hke'
      by_cases h0 : l = []
      · have hs0 : s.size = 0 := by rw [hsz, h0]; rfl
        simp only [h0, decide_true] at e1 e2
        have hr : nm l = false := by rw [HM.out]; simp [h0]
        have HR := Lib.hid hr
        clear h0 hsz e3 hr
        go_wp2
        all_goals (go_ret; exact ⟨by rw [HR.out]; rfl, rfl⟩)
      · simp only [h0, decide_false] at e1 e2
        have hr : nm l = decide (s.size ≤ 12) := by rw [HM.out, hsz]; simp [h0]
        have HR := Lib.hid hr
        clear h0 e3 hr hsz
        by_cases h12 : s.size ≤ 12
        all_goals
          go_wp2
          go_ret
          exact ⟨by rw [HR.out]; simp [h12]; omega, rfl⟩
theorem nm_first {l : List UInt8} {s : ByteArray} (hs : Str l = s) (h : 0 < s.size) (hb : ¬ (97 ≤ (s[0].toNat : Int) ∧ (s[0].toNat : Int) ≤ 122)) : nm l = false := by
  have h1 := nmAll_take (str_get l s hs 0 h)
  refine nm_bad (k := 1) ?_
  rw [h1, List.take_zero]
  simp only [nmAll, Bool.true_and, nmAt, isLet, isDig, Nat.lt_irrefl, decide_false, Bool.false_and, Bool.or_false]
  rw [Bool.eq_false_iff]
  simp only [ne_eq, Bool.and_eq_true, decide_eq_true_eq]
  omega
set_option maxHeartbeats 2000000 in
set_option maxRecDepth 100000 in
theorem risname_c (l : List UInt8) (hl : l.length ≤ 9223372036854775807) (w : World) : Calls Tryd.prog 71 #[.string (Str l)] w fun e w' => e = .returned (.bool (nm l)) ∧ w = w' := by
  have hsz := Str_size l
  obtain ⟨s, hs⟩ : ∃ s, Str l = s := ⟨_, rfl⟩
  have hg := str_get l s hs
  have hfst := nm_first hs
  have hnil : s.size = 0 → nm l = false := fun h => by
    have : l = [] := List.eq_nil_of_length_eq_zero (by rw [← hsz, hs]; exact h)
    rw [this]; rfl
  rw [hs] at hsz ⊢
  have hsl : s.size ≤ 9223372036854775807 := by omega
  have h12 : 12 < s.size → nm l = false := fun h => by
    have : decide (l.length ≤ 12) = false := by simp; omega
    simp [nm, this]
  have hfin : 0 < s.size → s.size ≤ 12 → nmAll 0 (l.take s.size) = true → nm l = true := fun h0 h1 h2 => by
    rw [hsz, List.take_length] at h2
    have h3 : l ≠ [] := by intro e; rw [e, List.length_nil] at hsz; omega
    simp [nm, h2, h3]; omega
  have HG := Lib.hid hg
  have HNil := Lib.hid hnil
  have H12 := Lib.hid h12
  have HFst := Lib.hid hfst
  have HFin := Lib.hid hfin
  clear hsz hg hs hnil h12 hfst hfin hl
  by_cases c0 : s.size = 0
  · go_enter Tryd.func71, Tryd.ntmps71
    go_wp2
    all_goals first
      | (exfalso; omega)
      | (go_ret; exact ⟨by rw [HNil.out c0]; rfl, rfl⟩)
  · by_cases c12 : 12 < s.size
    · have hpos : 0 < s.size := by omega
      have HR := Lib.hid (H12.out c12)
      go_enter Tryd.func71, Tryd.ntmps71
      go_wp2
      all_goals first
        | (exfalso; omega)
        | (go_ret; exact ⟨by rw [HR.out]; rfl, rfl⟩)
    · have hpos : 0 < s.size := by omega
      by_cases cf : 97 ≤ (s[0].toNat : Int) ∧ (s[0].toNat : Int) ≤ 122
      · obtain ⟨f1, f2⟩ := cf
        clear c0
        go_enter Tryd.func71, Tryd.ntmps71
        go_wp2
        all_goals first
          | (exfalso; omega)
          | skip
        go_loop [3] (fun i => ∃ k : Nat, k ≤ s.size ∧ i = .int .i64 k ∧ nmAll 0 (l.take k) = true) (fun i => s.size - (intOf i).toNat)
        case atStart => exact ⟨0, Nat.zero_le _, rfl, rfl⟩
        case round =>
          obtain ⟨k, hk, rfl, hn⟩ := hrel
          have HN := Lib.hid hn
          clear hn
          by_cases hlt : k < s.size
          · have hnx := nmAll_take (HG.out k hlt)
            rw [HN.out, Bool.true_and] at hnx
            have hbad : nmAt k s[k] = false → nm l = false := fun h => nm_bad (k := k + 1) (by rw [hnx]; exact h)
            have hat : nmAt k s[k] = ((decide (97 ≤ (s[k].toNat : Int)) && decide ((s[k].toNat : Int) ≤ 122)) || (decide (0 < k) && (decide (48 ≤ (s[k].toNat : Int)) && decide ((s[k].toNat : Int) ≤ 57)))) := by
              rw [Bool.eq_iff_iff]
              simp only [nmAt, isLet, isDig, Bool.or_eq_true, Bool.and_eq_true, decide_eq_true_eq]
              omega
            have HX := Lib.hid hnx
            have HB := Lib.hid hbad
            have HA := Lib.hid hat
            clear hnx hbad hat
            by_cases h3 : k = 0
            · subst h3
              go_wp2
              all_goals first
                | (exfalso; omega)
                | (go_round
                   case rel => exact ⟨0 + 1, by omega, by go_num, by rw [HX.out, HA.out]; simp only [Bool.or_eq_true, Bool.and_eq_true, decide_eq_true_eq]; omega⟩
                   case measure => simp [intOf]; omega)
            · go_wp2
              all_goals first
                | (go_ret
                   refine ⟨by rw [HB.out (by rw [HA.out, Bool.eq_false_iff]; simp only [ne_eq, Bool.or_eq_true, Bool.and_eq_true, decide_eq_true_eq]; simp at *; omega)]; rfl, rfl⟩)
                | (go_round
                   case rel => exact ⟨k + 1, by omega, by go_num, by rw [HX.out, HA.out]; simp only [Bool.or_eq_true, Bool.and_eq_true, decide_eq_true_eq]; simp at *; omega⟩
                   case measure => simp [intOf]; omega)
          · obtain rfl : k = s.size := by omega
            have HR := Lib.hid (HFin.out hpos (by omega) HN.out)
            clear hk
            go_wp2
            go_ret
            exact ⟨by rw [HR.out]; rfl, rfl⟩
      · have HR := Lib.hid (HFst.out hpos cf)
        by_cases g1 : (s[0].toNat : Int) < 97
        · clear cf c0
          go_enter Tryd.func71, Tryd.ntmps71
          go_wp2
          all_goals first
            | (exfalso; omega)
            | (go_ret; exact ⟨by rw [HR.out]; rfl, rfl⟩)
        · have g2 : 122 < (s[0].toNat : Int) := by omega
          clear cf c0
          go_enter Tryd.func71, Tryd.ntmps71
          go_wp2
          all_goals first
            | (exfalso; omega)
            | (go_ret; exact ⟨by rw [HR.out]; rfl, rfl⟩)

end Ac
end Go.Proofs.YtoeeddfinmfnoaaDoor
