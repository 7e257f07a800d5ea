/- The walks of package pack: In's number. Condition where an error is answered: the sentinels read as laid. -/
import Derived.Test.YtjohljpcoodijaaDoorPackPure
import Derived.Test.YtjohljpcoodijaaDoorMod
import Derived.Test.YtjohljpcoodijaaDoorErr
namespace Go.Proofs.YtjohljpcoodijaaDoor
open Go Go.RowKit Kt
namespace Pk
/-- The errors that package pack answers. -/
def pks : List Nat := [1, 5, 7]
/-- An error by its number. -/
def evn (A : Nat → Addr) (g : Nat) : Value := if g = 0 then .nilIface else if g = 1 then Er.ev A 1 else if g = 2 then Er.ev A 5 else if g = 3 then Er.ev A 6 else Er.ev A 7
/-- A reader at block p: what is left, its error. -/
structure InS (w : World) (p : Nat) (rest : List UInt8) (ev : Value) : Prop where
  h : ∃ a cap, w.heap[p]? = some (.cells #[.slice a rest.length cap, ev] 129 (0, 0)) ∧ Rd w a (u8s rest) ∧ rest.length ≤ cap ∧ cap ≤ maxLen ∧ (a = none → cap = 0) ∧ ∀ q, a = some q → q.block < p ∧ q.spot = none
variable {w w' : World} {p : Nat} {rest : List UInt8} {ev : Value}
theorem InS.plt (h : InS w p rest ev) : p < w.heap.size := by obtain ⟨a, cap, h1, _⟩ := h.h; exact block_lt h1
theorem InS.below (h : InS w p rest ev) (hb : Below w.heap.size w w') : InS w' p rest ev := by
  obtain ⟨a, cap, h1, h2, h3, h4, h5, h6⟩ := h.h
  exact ⟨a, cap, by rw [hb.block p (block_lt h1)]; exact h1, h2.keep hb, h3, h4, h5, h6⟩

def resN (A : Nat → Addr) : Except Nat (Nat × Nat) → Value
  | .ok (n, s) => .tuple #[.int .i64 n, .int .i64 s, .nilIface]
  | .error g => .tuple #[.int .i64 0, .int .i64 0, evn A g]
/-- The loop's relation. -/
def NuR (w : World) (l : List UInt8) (v i : Value) (W : World) : Prop := ∃ k n : Nat, k ≤ l.length ∧ k ≤ 5 ∧ i = .int .i64 k ∧ v = .int .i64 n ∧ n < 128 ^ k ∧ dec 0 0 l = dec k n (l.drop k) ∧ Below w.heap.size w W

set_option maxHeartbeats 2000000 in
set_option maxRecDepth 100000 in
theorem number_c (A : Nat → Addr) (w : World) (h : InS w p rest ev) (hl : rest.length ≤ 1000000) (hs : Sent 152 w A pks) :
    Calls Tryd.prog 85 #[.pointer (some ⟨p, 0, none⟩)] w fun e w' => e = .returned (resN A (dec 0 0 rest)) ∧ Below w.heap.size w w' := by
  obtain ⟨a, cap, h1, h2, h3, h4, h5, h6⟩ := h.h
  have k0 := cell_block h1 0
  obtain ⟨n, hn⟩ : ∃ n, rest.length = n := ⟨_, rfl⟩
  rw [hn] at k0 hl
  simp at k0
  have hplt := block_lt h1
  have HR := Lib.hid h2
  have HP := Lib.hid h1
  have Hn := Lib.hid hn
  have HS := Lib.hid hs
  clear h h1 h2 h3 h4 h5 h6 hn hs
  go_enter Tryd.func85, Tryd.ntmps85
  go_wp2
  go_loopw [2, 5, 6, 12] (fun v _ _ i W => NuR w rest v i W) (fun _ _ _ i _ => n - (intOf i).toNat)
  case atStart => exact ⟨0, 0, Nat.zero_le _, by omega, rfl, rfl, by simp, rfl, Below.refl _ _⟩
  case round =>
    obtain ⟨k, m, hk, hk5, rfl, rfl, hm, hdec, hB⟩ := hrel
    rw [Hn.out] at hk
    have hsw := HS.out.keep hB
    have e1 := hsw.cell 1 (by simp [pks])
    have e2 := hsw.cell 5 (by simp [pks])
    have e4 := hsw.cell 7 (by simp [pks])
    by_cases hlt : k < n
    · have hkl : k < rest.length := by rw [Hn.out]; exact hlt
      obtain ⟨b, off, ha, hc⟩ := (HR.out.keep hB).u8 k hkl
      have hcons : rest.drop k = rest[k] :: rest.drop (k + 1) := List.drop_eq_getElem_cons hkl
      rw [hcons] at hdec
      generalize rest[k] = c at *
      have hc2 := c.toNat_lt
      subst ha
      have HD := Lib.hid hdec
      have HB := Lib.hid hB
      clear hdec hB hcons hsw
      by_cases h5 : k = 5
      · subst h5
        have hres : dec 0 0 rest = .error 4 := by rw [HD.out, dec, if_pos rfl]
        have HRes := Lib.hid hres
        clear hres
        go_wp2
        go_quiet (fail)
        go_wp2
        go_ret3
        exact ⟨by rw [HRes.out]; rfl, below_drewN HB.out _⟩
      · have hk4 : k ≤ 4 := by omega
        have h5b : ((k : Int) == 5) = false := by simp; omega
        obtain ⟨m', hm'⟩ : ∃ m', m + c.toNat % 128 * 128 ^ k = m' := ⟨_, rfl⟩
        have hor := or_walk m c.toNat k hm hk4
        have hm2 := dec_lt (c := c.toNat) hm
        have hk5 : ¬ k = 5 := h5
        have hd2 := HD.out
        rw [dec, if_neg h5, hm'] at hd2
        rw [hm'] at hor hm2
        have hmb : m' < 34359738368 := Nat.lt_of_lt_of_le hm2 (by have := Nat.pow_le_pow_right (n := 128) (by omega) (show k + 1 ≤ 5 by omega); simpa using this)
        have HM2 := Lib.hid hm2
        clear hm' hm2 HD h5 hm
        by_cases hc128 : 128 ≤ c.toNat
        · rw [if_pos hc128] at hd2
          have HD2 := Lib.hid hd2
          clear hd2
          go_wp2
          go_roundw
          case rel => first | exact ⟨k + 1, m', hkl, by omega, by go_num, rfl, HM2.out, HD2.out, HB.out⟩ | ((repeat apply Exists.intro); refine ⟨?r, ?f⟩; (case f => (and_intros <;> rfl)); exact ⟨k + 1, m', hkl, by omega, by go_num, rfl, HM2.out, HD2.out, HB.out⟩)
          case measure => simp [intOf]; omega
        · rw [if_neg hc128] at hd2
          by_cases hz : 0 < k ∧ c.toNat = 0
          · rw [if_pos hz] at hd2
            obtain ⟨hz1, hz2⟩ := hz
            have hzb : ((c.toNat : Int) == 0) = true := by simp; omega
            have HD2 := Lib.hid hd2
            clear hd2 hz2
            go_wp2
            go_quiet (fail)
            go_wp2
            go_ret3
            exact ⟨by rw [HD2.out]; rfl, below_drewN HB.out _⟩
          · rw [if_neg hz] at hd2
            have hzb : k = 0 ∨ ((c.toNat : Int) == 0) = false := by
              rcases Nat.eq_zero_or_pos k with h | h
              · exact .inl h
              · right; simp; omega
            by_cases hbig : 2147483647 < m'
            · rw [if_pos hbig] at hd2
              have HD2 := Lib.hid hd2
              clear hd2 hz
              rcases hzb with h0 | h0
              · have hkz : k ≤ 0 := by omega
                clear h0
                go_wp2
                go_quiet (fail)
                go_wp2
                go_ret3
                exact ⟨by rw [HD2.out]; rfl, below_drewN HB.out _⟩
              · go_wp2
                all_goals
                  go_quiet (fail)
                  go_wp2
                  go_ret3
                  exact ⟨by rw [HD2.out]; rfl, below_drewN HB.out _⟩
            · rw [if_neg hbig] at hd2
              have HD2 := Lib.hid hd2
              clear hd2 hz
              rcases hzb with h0 | h0
              · have hkz : k ≤ 0 := by omega
                clear h0
                go_wp2
                go_ret3
                exact ⟨by rw [HD2.out]; rfl, HB.out⟩
              · go_wp2
                all_goals
                  go_ret3
                  exact ⟨by rw [HD2.out]; rfl, HB.out⟩
    · have hkn : k = n := by omega
      have hnil : rest.drop k = [] := List.drop_of_length_le (by rw [Hn.out]; omega)
      rw [hnil, dec, hkn] at hdec
      have hk0 := cell_block (show wr.heap[p]? = _ from by rw [hB.block p hplt]; exact HP.out) 0
      rw [Hn.out] at hk0
      simp at hk0
      have HB := Lib.hid hB
      by_cases h5 : 5 ≤ n
      · rw [if_pos h5] at hdec
        have HD := Lib.hid hdec
        clear hdec hB hnil hsw
        go_wp2
        go_quiet (fail)
        go_wp2
        go_ret3
        exact ⟨by rw [HD.out]; rfl, below_drewN HB.out _⟩
      · rw [if_neg h5] at hdec
        have HD := Lib.hid hdec
        clear hdec hB hnil hsw
        go_wp2
        go_quiet (fail)
        go_wp2
        go_ret3
        exact ⟨by rw [HD.out]; rfl, below_drewN HB.out _⟩
end Pk
end Go.Proofs.YtjohljpcoodijaaDoor
