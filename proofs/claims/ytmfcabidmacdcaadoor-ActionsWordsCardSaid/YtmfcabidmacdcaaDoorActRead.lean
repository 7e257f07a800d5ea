/- The walks of package actions' reader. Condition: the sentinels read as laid. -/
import Derived.Test.YtmfcabidmacdcaaDoorActNm
import Derived.Test.YtmfcabidmacdcaaDoorActSplit
import Derived.Test.YtmfcabidmacdcaaDoorErr
namespace Go.Proofs.YtmfcabidmacdcaaDoor
open Go Go.RowKit Kt Sp
namespace Ac
/-- The errors that package actions answers. -/
def acs : List Nat := [1, 2, 3, 4]
def eva (A : Nat → Addr) (g : Nat) : Value := if g = 0 then .nilIface else if g = 2 then Er.ev A 1 else if g = 3 then Er.ev A 2 else if g = 4 then Er.ev A 3 else Er.ev A 4
/-- A reader at block p, new since w: the words at ⟨b, o⟩ that are left. -/
structure Rq (w W : World) (p b o : Nat) (ws : List (List UInt8)) (i : Nat) : Prop where
  hp : W.heap[p]? = some (.cells #[.slice (some ⟨b, o, none⟩) ws.length ws.length, .int .i64 (i : Int)] 129 (0, 0))
  rd : Rd W (some ⟨b, o, none⟩) (ws.map Sw)
  ne : b ≠ p
  B : Below w.heap.size w W
  l : w.heap.size ≤ p
  hi : i + (join ws).length ≤ 1000000
variable {w W W' : World} {p b o i : Nat} {ws : List (List UInt8)} {A : Nat → Addr}
theorem Rq.below (h : Rq w W p b o ws i) (hb : Below W.heap.size W W') : Rq w W' p b o ws i :=
  ⟨by rw [hb.block p (block_lt h.hp)]; exact h.hp, h.rd.keep hb, h.ne, h.B.trans (hb.mono h.B.size), h.l, h.hi⟩
theorem Rq.cells (h : Rq w W p b o ws i) : W.cell? ⟨p, 0, none⟩ = some (.slice (some ⟨b, o, none⟩) ws.length ws.length) ∧ W.cell? ⟨p, 1, none⟩ = some (.int .i64 (i : Int)) ∧ W.frozen? ⟨p, 0, none⟩ = false ∧ W.frozen? ⟨p, 1, none⟩ = false :=
  ⟨cell_block h.hp 0, cell_block h.hp 1, frozen_block h.hp 0, frozen_block h.hp 1⟩
theorem Rq.word {v : List UInt8} {r : List (List UInt8)} (h : Rq w W p b o (v :: r) i) : W.cell? ⟨b, o, none⟩ = some (.string (Str v)) := by
  obtain ⟨b', o', e, hc⟩ := h.rd 0 (.string (Str v)) rfl
  simp only [Option.some.injEq, Addr.mk.injEq, and_true] at e
  obtain ⟨rfl, rfl⟩ := e
  exact hc
theorem nn (ws : List (List UInt8)) : ((ws.length : Int) == 0) = decide (ws = []) := by cases ws <;> simp; omega
set_option maxRecDepth 100000 in
theorem next_no (h : Rq w W p b o [] i) : Calls Tryd.prog 118 #[.pointer (some ⟨p, 0, none⟩)] W fun e w' => e = .returned (.tuple #[.string (Str []), .bool false]) ∧ w' = W := by
  obtain ⟨k0, k1, _, _⟩ := h.cells
  simp only [List.length_nil] at k0
  clear h
  go_enter Tryd.func118, Tryd.ntmps118
  go_wp2
  go_ret2
  exact ⟨rfl, rfl⟩
set_option maxRecDepth 100000 in
theorem next_yes {v : List UInt8} {r : List (List UInt8)} (h : Rq w W p b o (v :: r) i) : Calls Tryd.prog 118 #[.pointer (some ⟨p, 0, none⟩)] W fun e w' => e = .returned (.tuple #[.string (Str v), .bool true]) ∧ w' = W := by
  obtain ⟨k0, k1, _, _⟩ := h.cells
  have k2 := h.word
  obtain ⟨n, hn⟩ : ∃ n, (v :: r).length = n := ⟨_, rfl⟩
  rw [hn] at k0
  have h0 : 0 < n := by rw [← hn]; simp
  clear h hn
  go_enter Tryd.func118, Tryd.ntmps118
  go_wp2
  go_ret2
  exact ⟨rfl, rfl⟩
theorem Rq.to {v : List UInt8} {r : List (List UInt8)} {o' i' : Nat} (h : Rq w W p b o (v :: r) i) (hM : Mod [p] W W') (hp : W'.heap[p]? = some (.cells #[.slice (some ⟨b, o', none⟩) r.length r.length, .int .i64 (i' : Int)] 129 (0, 0)))
    (ho : o' = o + 1 ∨ r = []) (hi : i' = i + stp v r) : Rq w W' p b o' r i' := by
  have hrd : Rd W (some ⟨b, o', none⟩) (r.map Sw) := by
    rcases ho with rfl | rfl
    · have := h.rd.drop 1
      simpa using this
    · exact Rd.nil _ _
  refine ⟨hp, hrd.mod hM (fun q hq => by cases hq; simpa using h.ne), h.ne, h.B.trans (hM.toBelow h.B.size (fun k hk => by simp at hk; subst hk; exact h.l)), h.l, ?_⟩
  have := h.hi
  subst hi
  cases r with
  | nil => simp [join, stp] at this ⊢; omega
  | cons v2 r2 => simp [join, stp] at this ⊢; omega
set_option maxHeartbeats 2000000 in
set_option maxRecDepth 100000 in
theorem take_c {v : List UInt8} {r : List (List UInt8)} (h : Rq w W p b o (v :: r) i) : Calls Tryd.prog 119 #[.pointer (some ⟨p, 0, none⟩)] W fun e w' => e = .returned (.tuple #[]) ∧ ∃ o', Rq w w' p b o' r (i + stp v r) ∧ Mod [p] W w' := by
  obtain ⟨k0, k1, f0, f1⟩ := h.cells
  have k2 := h.word
  have hsz := Str_size v
  have hj : i + v.length ≤ 1000000 := by
    have := h.hi
    cases r <;> simp [join] at this <;> omega
  have HH := Lib.hid h
  have hbp := block_lt h.hp
  cases r with
  | nil =>
    simp only [List.length_singleton] at k0
    go_enter Tryd.func119, Tryd.ntmps119
    go_wp2_with fail
    go_region
    go_wp2
    go_end0
    refine ⟨rfl, o, HH.out.to ?_ ?_ (.inr rfl) rfl, ?_⟩
    · exact (((Mod.refl [p] W).setCell (p := ⟨p, 1, none⟩) (.inl (by simp)) _).setCell (p := ⟨p, 0, none⟩) (.inl (by simp)) _).drew
    · exact block_setCell (i := 0) (block_setCell (i := 1) HH.out.hp _) _
    · exact (((Mod.refl [p] W).setCell (p := ⟨p, 1, none⟩) (.inl (by simp)) _).setCell (p := ⟨p, 0, none⟩) (.inl (by simp)) _).drew
  | cons v2 r2 =>
    obtain ⟨n, hn⟩ : ∃ n, (v2 :: r2).length = n := ⟨_, rfl⟩
    have h0 : 0 < n := by rw [← hn]; simp
    rw [List.length_cons, hn] at k0
    have HN := Lib.hid hn
    clear hn
    go_enter Tryd.func119, Tryd.ntmps119
    go_wp2_with fail
    go_region
    go_wp2
    go_end0
    have hl := HN.out
    refine ⟨rfl, o + 1, HH.out.to ?_ ?_ (.inl rfl) rfl, ?_⟩
    · exact ((((Mod.refl [p] W).setCell (p := ⟨p, 1, none⟩) (.inl (by simp)) _).setCell (p := ⟨p, 0, none⟩) (.inl (by simp)) _).setCell (p := ⟨p, 1, none⟩) (.inl (by simp)) _).drew
    · have := block_setCell (i := 1) (block_setCell (i := 0) (block_setCell (i := 1) HH.out.hp (.int .i64 ((i : Int) + (v.length : Int)))) (.slice (some ⟨b, o + 1, none⟩) n n)) (.int .i64 ((i : Int) + (v.length : Int) + 1))
      rw [hl, show (((i + stp v (v2 :: r2) : Nat)) : Int) = (i : Int) + (v.length : Int) + 1 by simp [stp]; omega]
      exact this
    · exact ((((Mod.refl [p] W).setCell (p := ⟨p, 1, none⟩) (.inl (by simp)) _).setCell (p := ⟨p, 0, none⟩) (.inl (by simp)) _).setCell (p := ⟨p, 1, none⟩) (.inl (by simp)) _).drew
set_option maxHeartbeats 2000000 in
set_option maxRecDepth 100000 in
theorem name_none (h : Rq w W p b o [] i) (hs : Sent 254 w A acs) : Calls Tryd.prog 120 #[.pointer (some ⟨p, 0, none⟩)] W fun e w' => e = .returned (.tuple #[.string (Str []), eva A 2]) ∧ Rq w w' p b o [] i ∧ Mod [p] W w' := by
  have HN := Lib.hid (next_no h)
  have HH := Lib.hid h
  have e4 := (hs.keep h.B).cell 1 (by simp [acs])
  clear h hs
  go_enter Tryd.func120, Tryd.ntmps120
  go_wp2_with fail
  refine HN.out.mono ?_
  rintro e w1 ⟨rfl, rfl⟩
  go_wp2_with fail
  go_quiet (fail)
  go_wp2
  go_ret2
  exact ⟨rfl, HH.out.below (below_drewN (Below.refl _ _) _), (Mod.refl _ _).drewN _⟩
set_option maxHeartbeats 2000000 in
set_option maxRecDepth 100000 in
theorem name_bad {v : List UInt8} {r : List (List UInt8)} (hv : nm v = false) (h : Rq w W p b o (v :: r) i) (hs : Sent 254 w A acs) : Calls Tryd.prog 120 #[.pointer (some ⟨p, 0, none⟩)] W fun e w' => e = .returned (.tuple #[.string (Str []), eva A 5]) ∧ Rq w w' p b o (v :: r) i ∧ Mod [p] W w' := by
  have HN := Lib.hid (next_yes h)
  have HH := Lib.hid h
  have e4 := (hs.keep h.B).cell 4 (by simp [acs])
  have hj : v.length ≤ 1000000 := by
    have := h.hi
    cases r <;> simp [join] at this <;> omega
  have hi := fun w => isname_c v hj w
  rw [hv] at hi
  have HI := Lib.hid hi
  clear h hs hi hj
  go_enter Tryd.func120, Tryd.ntmps120
  go_wp2_with fail
  refine HN.out.mono ?_
  rintro e w1 ⟨rfl, rfl⟩
  go_wp2_with (go_at_call 116; (with_reducible refine (HI.out _).mono ?_); rintro e w' ⟨rfl, rfl⟩)
  go_quiet (fail)
  go_wp2
  go_ret2
  exact ⟨rfl, HH.out.below (below_drewN (Below.refl _ _) _), (Mod.refl _ _).drewN _⟩
set_option maxHeartbeats 2000000 in
set_option maxRecDepth 100000 in
theorem name_good {v : List UInt8} {r : List (List UInt8)} (hv : nm v = true) (h : Rq w W p b o (v :: r) i) : Calls Tryd.prog 120 #[.pointer (some ⟨p, 0, none⟩)] W fun e w' => e = .returned (.tuple #[.string (Str v), .nilIface]) ∧ ∃ o', Rq w w' p b o' r (i + stp v r) ∧ Mod [p] W w' := by
  have HN := Lib.hid (next_yes h)
  have hj : v.length ≤ 1000000 := by
    have := h.hi
    cases r <;> simp [join] at this <;> omega
  have hi := fun w => isname_c v hj w
  rw [hv] at hi
  have HI := Lib.hid hi
  have HT := Lib.hid (take_c h)
  clear h hi hj
  go_enter Tryd.func120, Tryd.ntmps120
  go_wp2_with fail
  refine HN.out.mono ?_
  rintro e w1 ⟨rfl, rfl⟩
  go_wp2_with (first
    | (go_at_call 116; (with_reducible refine (HI.out _).mono ?_); rintro e w' ⟨rfl, rfl⟩)
    | (go_at_call 119; (with_reducible refine HT.out.mono ?_); rintro e w' ⟨rfl, HO⟩))
  go_ret2
  exact ⟨rfl, HO⟩
end Ac
end Go.Proofs.YtmfcabidmacdcaaDoor
