/- The walks of package robin: Members; dofferlaw33.alive. Condition for alive: the sentinels read as laid. -/
import Derived.Test.YtjohljpcoodijaaDoorRobinTurn
namespace Go.Proofs.YtjohljpcoodijaaDoor
open Go Go.RowKit Kt
namespace Rb
def fsts (l : List (Int × Int)) : List Int := l.map (·.1)
set_option maxHeartbeats 2000000 in
set_option maxRecDepth 100000 in
theorem members_c (w : World) (p : Nat) (g : List Nat) (Q : Int) (l : List (Int × Int)) (on : Bool) (h : Is w p g Q l on) (hl : l.length ≤ 1000000) :
    Calls Tryd.prog 55 #[.pointer (some ⟨p, 0, none⟩)] w fun e w' => ∃ v, e = .returned v ∧ w'.ownsRow w.heap.size 3 1 v l.length (i64s (fsts l)) ∧ Below w.heap.size w w' := by
  obtain ⟨a, cap, h1, h2, _⟩ := h.h
  have k1 := cell_block h1 1
  have hr := Rd.own h2
  obtain ⟨n, hn⟩ : ∃ n, l.length = n := ⟨_, rfl⟩
  rw [hn] at k1 hl ⊢
  have Hn := Lib.hid hn
  have HR := Lib.hid hr
  clear h h1 h2 hn hr
  go_enter Tryd.func55, Tryd.ntmps55
  go_wp2
  go_loopw [3, 11] (fun v i W => ∃ k : Nat, k ≤ n ∧ i = .int .i64 k ∧ W.ownsRow w.heap.size 3 1 v k (i64s (fsts (l.take k))) ∧ Below w.heap.size w W) (fun _ i _ => n - (intOf i).toNat)
  case atStart => exact ⟨0, Nat.zero_le _, rfl, World.ownsRow_nil _ _ _ _, Below.refl _ _⟩
  case round =>
    obtain ⟨k, hk, rfl, own, hB⟩ := hrel
    obtain ⟨va, vc, rfl, v1, v2, v3, v4⟩ := rd_own own
    by_cases hgo : k < n
    · have hkl : k < l.length := by rw [Hn.out]; exact hgo
      obtain ⟨g0, off, ha, hcs⟩ := (HR.out.keep hB).struct 2 (by intro z _; rfl) k hkl (by omega)
      have k2 := hcs 0 _ rfl (by omega)
      have k3 := hcs 1 _ rfl (by omega)
      have htk : fsts (l.take (k + 1)) = fsts (l.take k) ++ [l[k].1] := by unfold fsts; rw [← List.take_append_getElem hkl, List.map_append]; rfl
      generalize l[k] = z at *
      obtain ⟨m, d⟩ := z
      simp only [Nat.add_zero] at k2 k3
      rw [← Nat.add_assoc] at k3
      have hgl := lt_of_cell (p := ⟨g0, off + k * 2, none⟩) k2
      have b1 := (Below.refl wr.heap.size wr).alloc (Nat.le_refl _) (.cells #[.int .i64 m, .int .i64 d] 118)
      have b2 := b1.alloc b1.size (.cells #[.int .i64 m] 3)
      obtain ⟨v', w2, hrun, own2, gr2, _⟩ := elI.append w.heap.size (ty := 32) (own_keep own b2) 1 1 rfl (Rd.new (wr.alloc (.cells #[.int .i64 m, .int .i64 d] 118)) #[.int .i64 m] 3 (0, 0) [.int .i64 m] rfl) (fun h => by cases h) (by intro u hu; simp at hu; subst hu; rfl) (by unfold maxLen; omega) (by omega) (by have := hB.size; simp; omega)
      have b7 : Below w.heap.size w w2 := (hB.trans (b2.mono hB.size)).grown gr2 (by have := hB.size; have := b2.size; omega) (fun j hj => ((own_keep own b2).lt j hj).1)
      have Htk := Lib.hid htk
      have Own2 := Lib.hid own2
      have B7 := Lib.hid b7
      subst ha
      simp at hrun
      clear htk own hB own2 gr2 b7 b1 b2 hcs v1 v2 v3 v4 hkl
      go_wp2_with (at_builtin; (with_reducible apply wpList_append_run hrun); rfl; rfl; rfl; rfl; rfl)
      go_roundw
      case rel => exact ⟨k + 1, hgo, by go_num, by rw [Htk.out, i64s, List.map_append]; exact Own2.out, B7.out⟩
      case measure => simp [intOf]; omega
    · have : k = n := by omega
      subst this
      rw [List.take_of_length_le (by rw [Hn.out]; exact Nat.le_refl _)] at own
      go_wp2
      go_ret
      exact ⟨_, rfl, own, hB⟩

/-- The list in W, all its memory new since w. -/
structure Li (w W : World) (p : Nat) (g : List Nat) (Q : Int) (l : List (Int × Int)) (on : Bool) : Prop where
  i : Is W p g Q l on
  B : Below w.heap.size w W
  lp : w.heap.size ≤ p
  lg : ∀ k ∈ g, w.heap.size ≤ k
variable {w W W' : World} {p : Nat} {g : List Nat} {Q : Int} {l : List (Int × Int)} {on : Bool}
theorem Li.below (h : Li w W p g Q l on) (hb : Below W.heap.size W W') : Li w W' p g Q l on := ⟨h.i.below hb, h.B.trans (hb.mono h.B.size), h.lp, h.lg⟩
theorem Li.mod {S : List Nat} (h : Li w W p g Q l on) (hM : Mod S W W') (hS : ∀ k ∈ p :: g, k ∉ S) (hw : ∀ k ∈ S, w.heap.size ≤ k) : Li w W' p g Q l on :=
  ⟨h.i.mod hM hS, h.B.trans (hM.toBelow h.B.size hw), h.lp, h.lg⟩
theorem Li.step (h : Li w W p g Q l on) {g' : List Nat} {l' : List (Int × Int)} {on' : Bool} (hi : Is W' p g' Q l' on') (hM : Mod (p :: g) W W') (hF : Fr g' g W.heap.size) : Li w W' p g' Q l' on' :=
  ⟨hi, h.B.trans (hM.toBelow h.B.size (by
    intro k hk
    rcases List.mem_cons.1 hk with rfl | hk
    · exact h.lp
    · exact h.lg k hk)), h.lp, fun k hk => by
    rcases hF k hk with h1 | h1
    · exact h.lg k h1
    · have := h.B.size; omega⟩
theorem Fr.notin {g' g : List Nat} {k B p : Nat} (hF : Fr g' g B) (hk : k ∉ p :: g) (hB : k < B) : k ∉ p :: g' := by
  intro hm
  rcases List.mem_cons.1 hm with rfl | hm
  · exact hk (by simp)
  · rcases hF k hm with h1 | h1
    · exact hk (by simp [h1])
    · omega
theorem Fr.refl (g : List Nat) (B : Nat) : Fr g g B := fun _ h => .inl h

theorem newL (R : Int) (w W : World) (hB : Below w.heap.size w W) (h1 : 1 ≤ R) (h2 : R ≤ 256) :
    Calls Tryd.prog 22 #[.int .i64 R] W fun e W' => ∃ p, e = .returned (.tuple #[.pointer (some ⟨p, 0, none⟩), .nilIface]) ∧ Li w W' p [] R [] false ∧ W.heap.size ≤ p ∧ Below W.heap.size W W' :=
  (new_ok R W h1 h2).mono fun _ _ ⟨p, h1, h2, h3, h4⟩ => ⟨p, h1, ⟨h2, hB.trans (h4.mono hB.size), by have := hB.size; omega, by simp⟩, h3, h4⟩
theorem addY (x : Int) (h : Li w W p g Q l on) (hl : l.length ≤ 1000000) (hf : ¬ fd l x < l.length) :
    Calls Tryd.prog 23 #[.pointer (some ⟨p, 0, none⟩), .int .i64 x] W fun e W' => e = .returned (.bool true) ∧ ∃ g', Li w W' p g' Q (l ++ [(x, 0)]) on ∧ Mod (p :: g) W W' ∧ Fr g' g W.heap.size :=
  (add_yes x W p g Q l on h.i hl hf).mono fun _ _ ⟨h1, g', h2, h3, h4⟩ => ⟨h1, g', h.step h2 h3 h4, h3, h4⟩
theorem addN (x : Int) (h : Li w W p g Q l on) (hl : l.length ≤ 1000000) (hf : fd l x < l.length) :
    Calls Tryd.prog 23 #[.pointer (some ⟨p, 0, none⟩), .int .i64 x] W fun e W' => e = .returned (.bool false) ∧ Li w W' p g Q l on ∧ Below W.heap.size W W' :=
  (add_no x W p g Q l on h.i hl hf).mono fun _ _ ⟨h1, h2⟩ => ⟨h1, h.below h2, h2⟩
theorem dropY (x : Int) (h : Li w W p g Q l on) (hl : l.length ≤ 1000000) (hf : fd l x < l.length) :
    Calls Tryd.prog 58 #[.pointer (some ⟨p, 0, none⟩), .int .i64 x] W fun e W' => e = .returned (.bool true) ∧ Li w W' p g Q (l.eraseIdx (fd l x)) (on && decide (0 < fd l x)) ∧ Mod (p :: g) W W' :=
  (drop_yes x W p g Q l on h.i hl hf).mono fun _ _ ⟨h1, h2, h3⟩ => ⟨h1, h.step h2 h3 (Fr.refl _ _), h3⟩
theorem dropN (x : Int) (h : Li w W p g Q l on) (hl : l.length ≤ 1000000) (hf : ¬ fd l x < l.length) :
    Calls Tryd.prog 58 #[.pointer (some ⟨p, 0, none⟩), .int .i64 x] W fun e W' => e = .returned (.bool false) ∧ Li w W' p g Q l on ∧ Below W.heap.size W W' :=
  (drop_no x W p g Q l on h.i hl hf).mono fun _ _ ⟨h1, h2⟩ => ⟨h1, h.below h2, h2⟩
theorem turnY (m d D : Int) (r : List (Int × Int)) (hD : d + Q = D) (h : Li w W p g Q ((m, d) :: r) false) (hd : 0 ≤ d) (hd2 : d ≤ 1000000000) (hQ : 0 ≤ Q) (hQ2 : Q ≤ 1000000000) (hl : r.length ≤ 1000000) :
    Calls Tryd.prog 24 #[.pointer (some ⟨p, 0, none⟩)] W fun e W' => e = .returned (.tuple #[.int .i64 m, .int .i64 D, .nilIface]) ∧ Li w W' p g Q ((m, D) :: r) true ∧ Mod (p :: g) W W' := by
  subst hD
  exact (turn_ok m d r W p g Q h.i hd hd2 hQ hQ2 hl).mono fun _ _ ⟨h1, h2, h3⟩ => ⟨h1, h.step h2 h3 (Fr.refl _ _), h3⟩
theorem turnN (A : Nat → Addr) (h : Li w W p g Q [] false) (hs : Sent 152 w A rb3) :
    Calls Tryd.prog 24 #[.pointer (some ⟨p, 0, none⟩)] W fun e W' => e = .returned (.tuple #[.int .i64 0, .int .i64 0, Er.ev A 3]) ∧ Li w W' p g Q [] false ∧ Below W.heap.size W W' :=
  (turn_none A W p g Q h.i (hs.keep h.B)).mono fun _ _ ⟨h1, h2⟩ => ⟨h1, h.below h2, h2⟩
theorem turnO (A : Nat → Addr) (h : Li w W p g Q l true) (hs : Sent 152 w A rb3) :
    Calls Tryd.prog 24 #[.pointer (some ⟨p, 0, none⟩)] W fun e W' => e = .returned (.tuple #[.int .i64 0, .int .i64 0, Er.ev A 2]) ∧ Li w W' p g Q l true ∧ Below W.heap.size W W' :=
  (turn_on A W p g Q l h.i (hs.keep h.B)).mono fun _ _ ⟨h1, h2⟩ => ⟨h1, h.below h2, h2⟩
/-- Done, by one that stays (or not). -/
def nxt (m d : Int) (stays : Bool) (r : List (Int × Int)) : List (Int × Int) := if stays then r ++ [(m, d)] else r
theorem doneY (m d s D : Int) (stays : Bool) (r : List (Int × Int)) (hD : d - s = D) (h : Li w W p g Q ((m, d) :: r) true) (hs0 : 0 ≤ s) (hsd : s ≤ d) (hd2 : d ≤ 1000000000) (hl : r.length ≤ 1000000) :
    Calls Tryd.prog 25 #[.pointer (some ⟨p, 0, none⟩), .int .i64 s, .bool stays] W fun e W' => e = .returned .nilIface ∧ ∃ g', Li w W' p g' Q (nxt m D stays r) false ∧ Mod (p :: g) W W' ∧ Fr g' g W.heap.size := by
  subst hD
  exact (done_ok m d s stays r W p g Q h.i hs0 hsd hd2 hl).mono fun _ _ ⟨h1, ⟨g', h2, h4⟩, h3⟩ => ⟨h1, g', h.step h2 h3 h4, h3, h4⟩
theorem doneB (A : Nat → Addr) (m d s : Int) (v : Value) (r : List (Int × Int)) (h : Li w W p g Q ((m, d) :: r) true) (hsp : s < 0 ∨ d < s) (hs : Sent 152 w A rb3) :
    Calls Tryd.prog 25 #[.pointer (some ⟨p, 0, none⟩), .int .i64 s, v] W fun e W' => e = .returned (Er.ev A 1) ∧ Li w W' p g Q ((m, d) :: r) true ∧ Below W.heap.size W W' :=
  (done_bad A m d s v r W p g Q h.i hsp (hs.keep h.B)).mono fun _ _ ⟨h1, h2⟩ => ⟨h1, h.below h2, h2⟩
theorem doneO (A : Nat → Addr) (s v : Value) (h : Li w W p g Q l false) (hs : Sent 152 w A rb3) :
    Calls Tryd.prog 25 #[.pointer (some ⟨p, 0, none⟩), s, v] W fun e W' => e = .returned (Er.ev A 2) ∧ Li w W' p g Q l false ∧ Below W.heap.size W W' :=
  (done_off A s v W p g Q l h.i (hs.keep h.B)).mono fun _ _ ⟨h1, h2⟩ => ⟨h1, h.below h2, h2⟩
theorem hasL (x : Int) (h : Li w W p g Q l on) (hl : l.length ≤ 1000000) :
    Calls Tryd.prog 56 #[.pointer (some ⟨p, 0, none⟩), .int .i64 x] W fun e W' => e = .returned (.bool (decide (fd l x < l.length))) ∧ Li w W' p g Q l on ∧ Below W.heap.size W W' :=
  (has_c x W p g Q l on h.i hl).mono fun _ _ ⟨h1, h2⟩ => ⟨h1, h.below h2, h2⟩
theorem defL (x : Int) (h : Li w W p g Q l on) (hl : l.length ≤ 1000000) :
    Calls Tryd.prog 57 #[.pointer (some ⟨p, 0, none⟩), .int .i64 x] W fun e W' => e = .returned (.int .i64 (left l x)) ∧ Li w W' p g Q l on ∧ Below W.heap.size W W' :=
  (deficit_c x W p g Q l on h.i hl).mono fun _ _ ⟨h1, h2⟩ => ⟨h1, h.below h2, h2⟩
theorem memL (n : Nat) (hn : l.length = n) (h : Li w W p g Q l on) (hl : l.length ≤ 1000000) :
    Calls Tryd.prog 55 #[.pointer (some ⟨p, 0, none⟩)] W fun e W' => ∃ a c, e = .returned (.slice a n c) ∧ W'.ownsRow W.heap.size 3 1 (.slice a n c) n (i64s (fsts l)) ∧ Li w W' p g Q l on ∧ Below W.heap.size W W' := by
  subst hn
  exact (members_c W p g Q l on h.i hl).mono fun _ _ ⟨v, h1, h2, h3⟩ => by
    obtain ⟨a, c, rfl, _⟩ := rd_own h2
    exact ⟨a, c, h1, h2, h.below h3, h3⟩

set_option maxHeartbeats 4000000 in
set_option maxRecDepth 100000 in
theorem alive_c (w : World) :
    Calls Tryd.prog 21 #[] w fun e w' => e = .returned (.bool true) ∧ Below w.heap.size w w' := by
  go_enter Tryd.func21, Tryd.ntmps21
  go_wp2_with fail
  refine (newL 5 w w (Below.refl _ _) (by omega) (by omega)).mono ?_
  rintro e w1 ⟨p, rfl, h1, _, _⟩
  go_wp2_with fail
  refine (addY 1 h1 (by simp) (by decide)).mono ?_
  rintro e w2 ⟨rfl, g2, h2, _, _⟩
  go_wp2_with fail
  refine (addY 2 h2 (by simp) (by decide)).mono ?_
  rintro e w3 ⟨rfl, g3, h3, _, _⟩
  go_wp2_with fail
  refine (turnY 1 0 5 [(2, 0)] rfl h3 (by omega) (by omega) (by omega) (by omega) (by simp)).mono ?_
  rintro e w4 ⟨rfl, h4, _⟩
  go_wp2_with fail
  refine (doneY 1 5 3 2 true [(2, 0)] rfl h4 (by omega) (by omega) (by omega) (by simp)).mono ?_
  rintro e w5 ⟨rfl, g5, h5, _, _⟩
  go_wp2_with fail
  refine (turnY 2 0 5 [(1, 2)] rfl h5 (by omega) (by omega) (by omega) (by omega) (by simp)).mono ?_
  rintro e w6 ⟨rfl, h6, _⟩
  go_wp2_with fail
  refine (doneY 2 5 5 0 true [(1, 2)] rfl h6 (by omega) (by omega) (by omega) (by simp)).mono ?_
  rintro e w7 ⟨rfl, g7, h7, _, _⟩
  go_wp2_with fail
  refine (turnY 1 2 7 [(2, 0)] rfl h7 (by omega) (by omega) (by omega) (by omega) (by simp)).mono ?_
  rintro e w8 ⟨rfl, h8, _⟩
  have HB := Lib.hid h8.B
  clear h1 h2 h3 h4 h5 h6 h7 h8
  go_wp2
  go_ret
  exact ⟨rfl, HB.out⟩
end Rb
end Go.Proofs.YtjohljpcoodijaaDoor
