/- The document's list of turns: Find, Add, Drop, Turn, Done. -/
import Derived.Test.YtjohljpcoodijaaDoorRef33
namespace Go.Proofs.YtjohljpcoodijaaDoor
open Go Go.RowKit Kt Rb
namespace R33
variable {w w' : World} {z : Nat} {gr gl : List Nat} {Q : Int} {l : List (Int × Int)} {on : Bool}

set_option maxHeartbeats 1000000 in
set_option maxRecDepth 100000 in
theorem find_c (x : Int) (w : World) (h : Rf w z gr gl Q l on) (hl : l.length ≤ 100000) :
    Calls Tryd.prog 67 #[.pointer (some ⟨z, 0, none⟩), .int .i64 x] w fun e w' => e = .returned (.int .i64 (fdv l x)) ∧ Below w.heap.size w w' := by
  obtain ⟨ra, rc, la, lc, h1, h2, h3, _⟩ := h.op
  have hr := Rd.own h2
  have k1 := cell_block h1 1
  obtain ⟨n, hn⟩ : ∃ n, l.length = n := ⟨_, rfl⟩
  rw [hn] at k1 hl
  simp at k1
  have Hn := Lib.hid hn
  have HR := Lib.hid hr
  clear h h1 h2 h3 hn hr
  go_enter Tryd.func67, Tryd.ntmps67
  go_wp2
  go_loopw [5, 6, 12] (fun _ _ i W => ∃ k : Nat, k ≤ n ∧ i = .int .i64 k ∧ (∀ j (h : j < k) (h2 : j < l.length), l[j].1 ≠ x) ∧ Below w.heap.size w W) (fun _ _ i _ => n - (intOf i).toNat)
  case atStart => exact ⟨0, Nat.zero_le _, rfl, fun j h => by omega, Below.refl _ _⟩
  case round =>
    obtain ⟨k, hk, rfl, hno, hB⟩ := hrel
    by_cases hlt : k < n
    · have hkx : k < l.length := by rw [Hn.out]; exact hlt
      obtain ⟨b, off, ha, hc⟩ := (HR.out.keep hB).i64 k (by simpa [fsts] using hkx)
      have hfx : (fsts l)[k]'(by simpa [fsts] using hkx) = l[k].1 := by simp [fsts]
      rw [hfx] at hc
      have hv : l[k].1 = x → fdv l x = (k : Int) := fun he => by
        have := fd_lt l x k hkx (fun j hj => hno j hj (by omega)) he
        unfold fdv
        rw [this, if_pos hkx]
      have hnx : l[k].1 ≠ x → ∀ j (h : j < k + 1) (h2 : j < l.length), l[j].1 ≠ x := fun hne j h h2 => by
        by_cases hj : j < k
        · exact hno j hj h2
        · have : j = k := by omega
          subst this; exact hne
      have Hv := Lib.hid hv
      have Hnx := Lib.hid hnx
      clear hv hnx hno hfx
      generalize l[k].1 = m at *
      subst ha
      by_cases hmx : m = x
      · have hmb : (x == x) = true := by simp
        subst hmx
        go_wp2
        go_ret
        exact ⟨by rw [Hv.out (by first | trivial | rfl)]; rfl, hB⟩
      · have hmb : (m == x) = false := by simp [hmx]
        go_wp2
        go_roundw
        case rel => exact ⟨k + 1, by omega, by go_num, Hnx.out hmx, hB⟩
        case measure => simp [intOf]; omega
    · have : k = n := by omega
      subst this
      have hv : fdv l x = -1 := by
        unfold fdv
        rw [fd_no l x (fun j h => hno j (by rw [← Hn.out]; exact h) h), if_neg (by omega)]
      have Hv := Lib.hid hv
      clear hv hno
      go_wp2
      go_ret
      exact ⟨by rw [Hv.out]; rfl, hB⟩

/-- Both rows' blocks are the old ones or lie from B on. -/
def Fr2 (gr' gl' gr gl : List Nat) (B : Nat) : Prop := ∀ k ∈ gr' ++ gl', k ∈ gr ++ gl ∨ B ≤ k

set_option maxHeartbeats 1000000 in
set_option maxRecDepth 100000 in
theorem add_no (x : Int) (w : World) (h : Rf w z gr gl Q l on) (hl : l.length ≤ 100000) (hf : fd l x < l.length) :
    Calls Tryd.prog 63 #[.pointer (some ⟨z, 0, none⟩), .int .i64 x] w fun e w' => e = .returned (.bool false) ∧ Below w.heap.size w w' := by
  have hF := find_c x w h hl
  rw [fdv_nn hf] at hF
  clear h hf
  go_enter Tryd.func63, Tryd.ntmps63
  go_wp2_with (go_at_call 67; (with_reducible refine hF.mono ?_); rintro e w5 ⟨rfl, hb5⟩)
  go_ret
  exact ⟨rfl, hb5⟩
set_option maxHeartbeats 1000000 in
set_option maxRecDepth 100000 in
theorem add_yes (x : Int) (w : World) (h : Rf w z gr gl Q l on) (hl : l.length ≤ 100000) (hf : ¬ fd l x < l.length) :
    Calls Tryd.prog 63 #[.pointer (some ⟨z, 0, none⟩), .int .i64 x] w fun e w' => e = .returned (.bool true) ∧ ∃ gr' gl', Rf w' z gr' gl' Q (l ++ [(x, 0)]) on ∧ Mod (z :: gl) w w' ∧ Fr2 gr' gl' gr gl w.heap.size := by
  have hF := find_c x w h hl
  rw [fdv_neg hf] at hF
  have H := Lib.hid h
  clear h hf
  go_enter Tryd.func63, Tryd.ntmps63
  go_wp2_with fail
  refine hF.mono ?_
  rintro e w5 ⟨rfl, hb5⟩
  have h5 := H.out.below hb5
  go_wp2_with fail
  refine (in_c x 0 w5 h5 hl).mono ?_
  rintro e w6 ⟨rfl, gr', gl', h6, hM6, hF6⟩
  have HR := Lib.hid h6
  have HM := Lib.hid ((Mod.of_below hb5 (z :: gl)).trans (hM6.sub (S' := z :: gl) (by simp)) (fun k hk => .inl hk))
  have HF := Lib.hid (show Fr2 gr' gl' gr gl w.heap.size from fun k hk => .inr (by have := hF6 k hk; have := hb5.size; omega))
  clear h5 h6 hM6 hF6 hb5
  go_wp2
  go_ret
  exact ⟨rfl, gr', gl', HR.out, HM.out, HF.out⟩
set_option maxHeartbeats 1000000 in
set_option maxRecDepth 100000 in
theorem drop_no (x : Int) (w : World) (h : Rf w z gr gl Q l on) (hl : l.length ≤ 100000) (hf : ¬ fd l x < l.length) :
    Calls Tryd.prog 64 #[.pointer (some ⟨z, 0, none⟩), .int .i64 x] w fun e w' => e = .returned (.bool false) ∧ Below w.heap.size w w' := by
  have hF := find_c x w h hl
  rw [fdv_neg hf] at hF
  clear h hf
  go_enter Tryd.func64, Tryd.ntmps64
  go_wp2_with (go_at_call 67; (with_reducible refine hF.mono ?_); rintro e w5 ⟨rfl, hb5⟩)
  go_ret
  exact ⟨rfl, hb5⟩
/-- The mark is written. -/
theorem Rf.mark (h : Rf w z gr gl Q l on) (b : Bool) : Rf (w.setCell ⟨z, 3, none⟩ (.bool b)) z gr gl Q l b := by
  obtain ⟨ra, rc, la, lc, h1, h2, h3, h4, h5, q1, q2, _⟩ := h.op
  have M := (Mod.refl [z] w).setCell (p := ⟨z, 3, none⟩) (.inl (by simp)) (.bool b)
  exact ⟨⟨ra, rc, la, lc, by rw [block_setCell h1]; rfl, own_mod h2 M (fun k hk hm => q1 k hk (by simpa using hm)), own_mod h3 M (fun k hk hm => q2 k hk (by simpa using hm)), h4, h5⟩, h.nr, h.nl, h.nrl⟩
theorem Rf.c3 (h : Rf w z gr gl Q l on) : w.cell? ⟨z, 3, none⟩ = some (.bool on) ∧ w.frozen? ⟨z, 3, none⟩ = false := by
  obtain ⟨ra, rc, la, lc, h1, _⟩ := h.op
  exact ⟨cell_block h1 3, frozen_block h1 3⟩
set_option maxHeartbeats 1000000 in
set_option maxRecDepth 100000 in
theorem drop_yes (x : Int) (w : World) (h : Rf w z gr gl Q l on) (hl : l.length ≤ 100000) (hf : fd l x < l.length) :
    Calls Tryd.prog 64 #[.pointer (some ⟨z, 0, none⟩), .int .i64 x] w fun e w' => e = .returned (.bool true) ∧ ∃ gr' gl', Rf w' z gr' gl' Q (l.eraseIdx (fd l x)) (on && decide (0 < fd l x)) ∧ Mod (z :: gl) w w' ∧ Fr2 gr' gl' gr gl w.heap.size := by
  have hF := find_c x w h hl
  rw [fdv_nn hf] at hF
  obtain ⟨i, hi⟩ : ∃ i, fd l x = i := ⟨_, rfl⟩
  rw [hi] at hF hf ⊢
  have H := Lib.hid h
  clear h hi
  by_cases h0 : i = 0
  · subst h0
    have HL := Lib.hid hf
    clear hf
    go_enter Tryd.func64, Tryd.ntmps64
    go_wp2_with fail
    refine hF.mono ?_
    rintro e w5 ⟨rfl, hb5⟩
    have h5 := H.out.below hb5
    obtain ⟨k3, f3⟩ := h5.c3
    have h6 := h5.mark false
    have H6 := Lib.hid h6
    have HM6 := Lib.hid ((Mod.of_below hb5 (z :: gl)).setCell (p := ⟨z, 3, none⟩) (.inl (by simp)) (.bool false))
    clear h5 h6 hb5
    go_wp2_with fail
    refine (out_c 0 _ H6.out hl HL.out).mono ?_
    rintro e w6 ⟨rfl, gr', gl', h6, hM6, hF6⟩
    have HR := Lib.hid h6
    have HM := Lib.hid (HM6.out.trans (hM6.sub (S' := z :: gl) (by simp)) (fun k hk => .inl hk))
    have HF := Lib.hid (show Fr2 gr' gl' gr gl w.heap.size from fun k hk => .inr (by have := hF6 k hk; have := HM6.out.size; omega))
    clear h6 hM6 hF6
    go_wp2
    go_ret
    exact ⟨rfl, gr', gl', by simpa using HR.out, HM.out, HF.out⟩
  · have hib : ((i : Int) == 0) = false := by simp; omega
    have hd : decide (0 < i) = true := by simp; omega
    have Hd := Lib.hid hd
    have HL := Lib.hid hf
    clear hd h0 hf
    go_enter Tryd.func64, Tryd.ntmps64
    go_wp2_with fail
    refine hF.mono ?_
    rintro e w5 ⟨rfl, hb5⟩
    have h5 := H.out.below hb5
    have H5 := Lib.hid h5
    have HM5 := Lib.hid (Mod.of_below hb5 (z :: gl))
    clear h5 hb5
    go_wp2_with fail
    refine (out_c i _ H5.out hl HL.out).mono ?_
    rintro e w6 ⟨rfl, gr', gl', h6, hM6, hF6⟩
    have HR := Lib.hid h6
    have HM := Lib.hid (HM5.out.trans (hM6.sub (S' := z :: gl) (by simp)) (fun k hk => .inl hk))
    have HF := Lib.hid (show Fr2 gr' gl' gr gl w.heap.size from fun k hk => .inr (by have := hF6 k hk; have := HM5.out.size; omega))
    clear h6 hM6 hF6
    go_wp2
    go_ret
    exact ⟨rfl, gr', gl', by rw [Hd.out, Bool.and_true]; exact HR.out, HM.out, HF.out⟩

set_option maxHeartbeats 1000000 in
set_option maxRecDepth 100000 in
theorem turn_on (w : World) (h : Rf w z gr gl Q l true) :
    Calls Tryd.prog 65 #[.pointer (some ⟨z, 0, none⟩)] w fun e w' => e = .returned (.tuple #[.int .i64 0, .int .i64 0, .int .i64 16]) ∧ Below w.heap.size w w' := by
  obtain ⟨k3, _⟩ := h.c3
  clear h
  go_enter Tryd.func65, Tryd.ntmps65
  go_wp2
  go_ret3
  exact ⟨rfl, Below.refl _ _⟩
set_option maxHeartbeats 1000000 in
set_option maxRecDepth 100000 in
theorem turn_none (w : World) (h : Rf w z gr gl Q [] false) :
    Calls Tryd.prog 65 #[.pointer (some ⟨z, 0, none⟩)] w fun e w' => e = .returned (.tuple #[.int .i64 0, .int .i64 0, .int .i64 15]) ∧ Below w.heap.size w w' := by
  obtain ⟨k3, _⟩ := h.c3
  obtain ⟨ra, rc, la, lc, h1, _⟩ := h.op
  have k1 := cell_block h1 1
  clear h h1
  go_enter Tryd.func65, Tryd.ntmps65
  go_wp2
  go_ret3
  exact ⟨rfl, Below.refl _ _⟩
theorem own_row {w : World} {e sz n cap : Nat} {a : Option Addr} {xs : List Value} (h : w.ownsRow 0 e sz (.slice a n cap) n xs) (hn : 0 < n) : ∃ g, a = some ⟨g, 0, none⟩ := by
  obtain ⟨_, ⟨hx, h0⟩ | ⟨g', c', cur, hx, _⟩⟩ := h
  · omega
  · simp only [Value.slice.injEq] at hx
    exact ⟨_, hx.1⟩
set_option maxHeartbeats 1000000 in
set_option maxRecDepth 100000 in
theorem turn_ok (m d : Int) (r : List (Int × Int)) (w : World) (h : Rf w z gr gl Q ((m, d) :: r) false) (hd : 0 ≤ d) (hd2 : d ≤ 1000000000) (hQ : 0 ≤ Q) (hQ2 : Q ≤ 1000000000) :
    Calls Tryd.prog 65 #[.pointer (some ⟨z, 0, none⟩)] w fun e w' => e = .returned (.tuple #[.int .i64 m, .int .i64 (d + Q), .int .i64 0]) ∧ Rf w' z gr gl Q ((m, d + Q) :: r) true ∧ Mod (z :: gl) w w' := by
  obtain ⟨ra, rc, la, lc, h1, h2, h3, h4, h5, q1, q2, q3⟩ := h.op
  obtain ⟨n, hn⟩ : ∃ n, ((m, d) :: r).length = n := ⟨_, rfl⟩
  have hpn : 0 < n := by rw [← hn]; simp
  rw [hn] at h1 h2 h3 h4 h5 q1 q2 q3
  have hpos : (0 : Int) < (n : Int) := by omega
  have hn0 : ((n : Int) == 0) = false := by simp; omega
  obtain ⟨g1, rfl⟩ := own_row h2 hpn
  obtain ⟨g2, rfl⟩ := own_row h3 hpn
  have n1 : g1 ≠ z := q1 g1 rfl
  have n2 : g2 ≠ z := q2 g2 rfl
  have n3 : g1 ≠ g2 := q3 g1 g2 rfl rfl
  have n4 : z ≠ g1 := fun e => n1 e.symm
  have n5 : z ≠ g2 := fun e => n2 e.symm
  have n6 : g2 ≠ g1 := fun e => n3 e.symm
  have k0 := cell_block h1 0
  have k1 := cell_block h1 1
  have k2 := cell_block h1 2
  have k3 := cell_block h1 3
  have f3 := frozen_block h1 3
  have km := World.ownsRow.cellAt h2 0 (by omega)
  have kd := World.ownsRow.cellAt h3 0 (by omega)
  have fd0 := World.ownsRow.frozenAt h3 0
  simp [i64s, fsts, snds] at k0 k1 k2 k3 km kd
  have Ma := (Mod.refl [z] w).setCell (p := ⟨z, 3, none⟩) (.inl (by simp)) (.bool true)
  have e1 := block_setCell (i := 3) h1 (.bool true)
  have o2 := own_mod h2 Ma (fun k hk hm => q1 k hk (by simpa using hm))
  have o3 := own_mod h3 Ma (fun k hk hm => q2 k hk (by simpa using hm))
  have fin : ∀ W', Below ((w.setCell ⟨z, 3, none⟩ (.bool true)).setCell ⟨g2, 0, none⟩ (.int .i64 (d + Q))).heap.size ((w.setCell ⟨z, 3, none⟩ (.bool true)).setCell ⟨g2, 0, none⟩ (.int .i64 (d + Q))) W' → Rf W' z gr gl Q ((m, d + Q) :: r) true ∧ Mod (z :: gl) w W' := by
    intro W' hW
    have hn2 : ((m, d + Q) :: r).length = n := by rw [← hn]; rfl
    have hst := World.ownsRow.stored o3 0 (.int .i64 (d + Q))
    have key : Rf ((w.setCell ⟨z, 3, none⟩ (.bool true)).setCell ⟨g2, 0, none⟩ (.int .i64 (d + Q))) z gr gl Q ((m, d + Q) :: r) true := by
      have := Rf.mk' (z := z) (Q := Q) (on := true) (l := (m, d + Q) :: r) (w := (w.setCell ⟨z, 3, none⟩ (.bool true)).setCell ⟨g2, 0, none⟩ (.int .i64 (d + Q))) (ra := some ⟨g1, 0, none⟩) (la := some ⟨g2, 0, none⟩) (rc := rc) (lc := lc) hn2
        (by rw [block_setOther n5]; rw [e1]; rfl)
        (o2.kept hst.2 (.inr (by simpa [Value.ownBlock] using n3))) hst.1 (fun k hk => by simp [Value.ownBlock] at hk; omega) (fun k hk => by simp [Value.ownBlock] at hk; omega) (fun k k' hk hk' => by simp [Value.ownBlock] at hk hk'; omega)
      rw [h4, h5] at this
      exact this
    refine ⟨key.below hW, Mod.below (Mod.setCell (Mod.setCell (Mod.refl _ w) (.inl (by simp)) _) (.inl ?_) _) hW⟩
    rw [← h5]; simp [Value.ownBlock]
  have Fin := Lib.hid fin
  clear fin h h1 h2 h3 h4 h5 q1 q2 q3 hn Ma e1 o2 o3
  go_enter Tryd.func65, Tryd.ntmps65
  go_wp2
  go_region
  go_wp2
  go_quiet (fail)
  go_wp2
  go_ret3
  exact ⟨rfl, Fin.out _ (below_drewN (Below.refl _ _).drew _)⟩

set_option maxHeartbeats 1000000 in
set_option maxRecDepth 100000 in
theorem done_off (s v : Value) (w : World) (h : Rf w z gr gl Q l false) :
    Calls Tryd.prog 66 #[.pointer (some ⟨z, 0, none⟩), s, v] w fun e w' => e = .returned (.int .i64 16) ∧ Below w.heap.size w w' := by
  obtain ⟨k3, _⟩ := h.c3
  clear h
  go_enter Tryd.func66, Tryd.ntmps66
  go_wp2
  go_ret
  exact ⟨rfl, Below.refl _ _⟩
set_option maxHeartbeats 1000000 in
set_option maxRecDepth 100000 in
theorem done_bad (m d s : Int) (v : Value) (r : List (Int × Int)) (w : World) (h : Rf w z gr gl Q ((m, d) :: r) true) (hsp : s < 0 ∨ d < s) :
    Calls Tryd.prog 66 #[.pointer (some ⟨z, 0, none⟩), .int .i64 s, v] w fun e w' => e = .returned (.int .i64 1) ∧ Below w.heap.size w w' := by
  obtain ⟨k3, _⟩ := h.c3
  obtain ⟨ra, rc, la, lc, h1, h2, h3, h4, h5, q1, q2, q3⟩ := h.op
  obtain ⟨n, hn⟩ : ∃ n, ((m, d) :: r).length = n := ⟨_, rfl⟩
  have hpn : 0 < n := by rw [← hn]; simp
  rw [hn] at h1 h3
  have hpos : (0 : Int) < (n : Int) := by omega
  obtain ⟨g2, rfl⟩ := own_row h3 hpn
  have k2 := cell_block h1 2
  have kd := World.ownsRow.cellAt h3 0 (by omega)
  simp [i64s, snds] at k2 kd
  clear h h1 h2 h3 h4 h5 q1 q2 q3 hn
  by_cases h0 : s < 0
  · have hb : decide (s < 0) = true := by simpa using h0
    clear h0 hsp
    go_enter Tryd.func66, Tryd.ntmps66
    go_wp2
    go_ret
    exact ⟨rfl, Below.refl _ _⟩
  · have hb : decide (s < 0) = false := by simpa using h0
    have hb2 : decide (d < s) = true := by simp; omega
    clear h0 hsp
    go_enter Tryd.func66, Tryd.ntmps66
    go_wp2
    go_ret
    exact ⟨rfl, Below.refl _ _⟩
set_option maxHeartbeats 2000000 in
set_option maxRecDepth 100000 in
theorem done_ok (m d s : Int) (stays : Bool) (r : List (Int × Int)) (w : World) (h : Rf w z gr gl Q ((m, d) :: r) true) (hs0 : 0 ≤ s) (hsd : s ≤ d) (hd2 : d ≤ 1000000000) (hl : r.length ≤ 10000) :
    Calls Tryd.prog 66 #[.pointer (some ⟨z, 0, none⟩), .int .i64 s, .bool stays] w fun e w' => e = .returned (.int .i64 0) ∧ ∃ gr' gl', Rf w' z gr' gl' Q (nxt m (d - s) stays r) false ∧ Mod (z :: gl) w w' ∧ Fr2 gr' gl' gr gl w.heap.size := by
  obtain ⟨k3, _⟩ := h.c3
  obtain ⟨ra, rc, la, lc, h1, h2, h3, h4, h5, q1, q2, q3⟩ := h.op
  obtain ⟨n, hn⟩ : ∃ n, ((m, d) :: r).length = n := ⟨_, rfl⟩
  have hpn : 0 < n := by rw [← hn]; simp
  rw [hn] at h1 h2 h3
  have hpos : (0 : Int) < (n : Int) := by omega
  obtain ⟨g1, rfl⟩ := own_row h2 hpn
  obtain ⟨g2, rfl⟩ := own_row h3 hpn
  have k1 := cell_block h1 1
  have k2 := cell_block h1 2
  have km := World.ownsRow.cellAt h2 0 (by omega)
  have kd := World.ownsRow.cellAt h3 0 (by omega)
  simp [i64s, fsts, snds] at k1 k2 km kd
  have hb : decide (s < 0) = false := by simp; omega
  have hb2 : decide (d < s) = false := by simp; omega
  have hww : IntKind.i64.wrap (d - s) = d - s := IntWalk.i64_in _ ⟨by omega, by omega⟩
  have H := Lib.hid h
  clear h h1 h2 h3 h4 h5 q1 q2 q3 hn
  go_enter Tryd.func66, Tryd.ntmps66
  go_wp2
  go_quiet (fail)
  have hb5 := below_drewN (Below.refl w.heap.size w) nq
  go_wp2_with fail
  have h5 := H.out.below hb5
  refine (out_c 0 _ h5 (by simp; omega) (by simp)).mono ?_
  rintro e w6 ⟨rfl, gr6, gl6, h6, hM6, hF6⟩
  rw [List.eraseIdx_cons_zero] at h6
  have HM6 := Lib.hid ((Mod.of_below hb5 (z :: gl)).trans (hM6.sub (S' := z :: gl) (by simp)) (fun k hk => .inl hk))
  have HF6 := Lib.hid (show ∀ k ∈ gr6 ++ gl6, w.heap.size ≤ k from fun k hk => by have := hF6 k hk; have := hb5.size; omega)
  clear h5 hM6 hF6 hb5 hww k1 k2 km kd k3
  cases stays with
  | false =>
    obtain ⟨k3, f3⟩ := h6.c3
    have H7 := Lib.hid (h6.mark false)
    have HM7 := Lib.hid (HM6.out.setCell (p := ⟨z, 3, none⟩) (.inl (by simp)) (.bool false))
    clear h6
    go_wp2
    go_ret
    exact ⟨rfl, gr6, gl6, H7.out, HM7.out, fun k hk => .inr (HF6.out k hk)⟩
  | true =>
    go_wp2_with fail
    refine (in_c m (d - s) _ h6 (by omega)).mono ?_
    rintro e w7 ⟨rfl, gr7, gl7, h7, hM7, hF7⟩
    obtain ⟨k3, f3⟩ := h7.c3
    have H8 := Lib.hid (h7.mark false)
    have HM7 := HM6.out.trans (hM7.sub (S' := z :: gl) (by simp)) (fun k hk => .inl hk)
    have HM8 := Lib.hid (HM7.setCell (p := ⟨z, 3, none⟩) (.inl (by simp)) (.bool false))
    have HF8 := Lib.hid (show Fr2 gr7 gl7 gr gl w.heap.size from fun k hk => .inr (by have := hF7 k hk; have := HM6.out.size; omega))
    clear h6 h7 hM7 hF7 HM7
    go_wp2
    go_ret
    exact ⟨rfl, gr7, gl7, H8.out, HM8.out, HF8.out⟩
end R33
end Go.Proofs.YtjohljpcoodijaaDoor
