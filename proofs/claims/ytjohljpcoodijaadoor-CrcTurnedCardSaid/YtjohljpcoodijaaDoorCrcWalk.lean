/- The walks of the check sums: crc.More, crc.Sum and the reference's Sum compute what the plain law says. Condition: the table reads as laid. -/
import Derived.Test.YtjohljpcoodijaaDoorRows
import Derived.Test.YtjohljpcoodijaaDoorLib
import Derived.Test.YtjohljpcoodijaaDoorCrcLaw
namespace Go.Proofs.YtjohljpcoodijaaDoor
open Go Go.RowKit Kt
namespace Crc

/-- The table as the program's text lays it. -/
def Tb (w : World) : Prop := ∀ x : UInt32, w.cell? ⟨0, U32.lo4 x, none⟩ = some (.int .u32 ((at4 x).toNat : Int))
theorem Tb.keep {w w' : World} (h : Tb w) (hb : Below w.heap.size w w') : Tb w' := fun x => by
  rw [hb.cell (p := ⟨_, _, none⟩) (lt_of_cell (h x))]; exact h x

set_option maxHeartbeats 400000 in
theorem more_c (sum : Int) (a : Option Addr) (cap : Nat) (l : List UInt8) (w : World) (hl : l.length ≤ 4611686018427387904) (hr : Rd w a (u8s l)) (ht : Tb w) :
    Calls Tryd.prog 20 #[.int .i64 sum, .slice a l.length cap] w fun e w' => e = .returned (.int .i64 (more (U32.ofI sum) l).toNat) ∧ w = w' := by
  have hlo := U32.lo4_lti
  unfold Tb at ht
  go_enter Tryd.func20, Tryd.ntmps20
  go_wp2
  go_loop [5, 13] (fun x i => ∃ k : Nat, k ≤ l.length ∧ i = .int .i64 k ∧ x = .int .u32 (run (U32.nt (U32.ofI sum)) (l.take k)).toNat) (fun _ i => l.length - (intOf i).toNat)
  case atStart => exact ⟨0, Nat.zero_le _, rfl, rfl⟩
  case round =>
    obtain ⟨k, hk, rfl, rfl⟩ := hrel
    generalize hx : run (U32.nt (U32.ofI sum)) (l.take k) = x
    have Hx := Lib.hid hx
    clear hx
    by_cases hlt : k < l.length
    · obtain ⟨b, off, ha, hck⟩ := hr.u8 k hlt
      clear hr
      subst ha
      have hs : l.take (k + 1) = l.take k ++ [l[k]] := by simp
      generalize l[k] = c at *
      have Hs := Lib.hid hs
      clear hs
      go_wp2
      go_round
      case rel => exact ⟨k + 1, by omega, by go_num, by rw [Hs.out, run_append, Hx.out]; rfl⟩
      case measure => simp [intOf]; omega
    · go_wp2
      go_ret
      exact ⟨by rw [List.take_of_length_le (by omega)] at Hx; rw [← Hx.out]; rfl, rfl⟩

/-- The bytes of rows, one behind the other. -/
def flat (rs : List Row) : List UInt8 := rs.flatMap (·.l)

set_option maxHeartbeats 400000 in
theorem sum_c (a : Option Addr) (cap : Nat) (rs : List Row) (w : World) (hl : rs.length ≤ 4611686018427387904) (hlr : ∀ r ∈ rs, r.l.length ≤ 4611686018427387904) (hr : Rd w a (rs.map Row.v)) (hrs : ∀ r ∈ rs, Rd w r.a (u8s r.l)) (ht : Tb w) :
    Calls Tryd.prog 17 #[.slice a rs.length cap] w fun e w' => e = .returned (.int .i64 (more 0 (flat rs)).toNat) ∧ w = w' := by
  go_enter Tryd.func17, Tryd.ntmps17
  go_wp2
  go_loop [3, 8] (fun s i => ∃ k : Nat, k ≤ rs.length ∧ i = .int .i64 k ∧ s = .int .i64 (more 0 (flat (rs.take k))).toNat) (fun _ i => rs.length - (intOf i).toNat)
  case atStart => exact ⟨0, Nat.zero_le _, rfl, by rw [show flat (rs.take 0) = [] from rfl, more_nil]; rfl⟩
  case round =>
    obtain ⟨k, hk, rfl, rfl⟩ := hrel
    generalize hx : more 0 (flat (rs.take k)) = x
    have Hx := Lib.hid hx
    clear hx
    by_cases hlt : k < rs.length
    · obtain ⟨b, off, ha, hck⟩ := hr.map_at k hlt
      have hrk := hrs _ (List.getElem_mem hlt)
      have hlk := hlr _ (List.getElem_mem hlt)
      clear hr
      subst ha
      have hs : flat (rs.take (k + 1)) = flat (rs.take k) ++ rs[k].l := by unfold flat; rw [List.take_succ_eq_append_getElem hlt, List.flatMap_append]; simp
      generalize rs[k] = r at *
      obtain ⟨ra, rc, rl⟩ := r
      have Hs := Lib.hid hs
      clear hs
      simp only [Row.v] at hck
      go_wp2_with (go_at_call 20; refine (more_c _ _ _ _ _ hlk hrk ht).mono ?_; rintro e w' ⟨rfl, rfl⟩)
      go_round
      case rel => exact ⟨k + 1, by omega, by go_num, by rw [Hs.out, more_append, Hx.out]⟩
      case measure => simp [intOf]; omega
    · go_wp2
      go_ret
      exact ⟨by rw [List.take_of_length_le (by omega)] at Hx; rw [← Hx.out]; rfl, rfl⟩

theorem ofI_u8 (c : UInt8) : (U32.ofI (c.toNat : Int)).toNat = c.toNat := by
  have := c.toNat_lt
  simp [U32.ofI, UInt32.ofInt]
  omega
theorem bit_test (y : UInt32) (c : UInt8) (j : Nat) :
    (Go.bits .xor .u32 (y.toNat : Int) (((U32.ofI (c.toNat : Int)).toNat : Int) / 2 ^ j)).tmod 2 = (((y.toNat ^^^ (c.toNat / 2 ^ j)) % 2 : Nat) : Int) := by
  have hc := c.toNat_lt
  have hd : c.toNat / 2 ^ j < 4294967296 := Nat.lt_of_le_of_lt (Nat.div_le_self _ _) (by omega)
  have e : (((U32.ofI (c.toNat : Int)).toNat : Int) / 2 ^ j) = ((c.toNat / 2 ^ j : Nat) : Int) := by rw [ofI_u8]; push_cast; rfl
  rw [e, u32_xor_nat _ _ y.toNat_lt hd]
  rfl
theorem bit_yes (y : UInt32) (c : UInt8) (j : Nat) (h : ((Go.bits .xor .u32 (y.toNat : Int) (((U32.ofI (c.toNat : Int)).toNat : Int) / 2 ^ j)).tmod 2 == 1) = true) :
    Go.bits .xor .u32 ((U32.ofI ((y.toNat : Int) / 2)).toNat : Int) 3988292384 = ((bit y c j).toNat : Int) := by
  have hy := y.toNat_lt
  have e : U32.ofI ((y.toNat : Int) / 2) = y / 2 := by
    apply UInt32.toNat_inj.1
    simp [U32.ofI, UInt32.ofInt]
    omega
  rw [bit_test] at h
  have h1 : (y.toNat ^^^ (c.toNat / 2 ^ j)) % 2 = 1 := by
    have := eq_of_beq h
    omega
  have e2 : (3988292384 : Int) = ((poly.toNat : Nat) : Int) := rfl
  rw [e, e2, U32.xor_u32]
  unfold bit
  rw [if_pos h1]
  rfl
theorem bit_no (y : UInt32) (c : UInt8) (j : Nat) (h : ((Go.bits .xor .u32 (y.toNat : Int) (((U32.ofI (c.toNat : Int)).toNat : Int) / 2 ^ j)).tmod 2 == 1) = false) :
    (y.toNat : Int) / 2 % 4294967296 = ((bit y c j).toNat : Int) := by
  have hy := y.toNat_lt
  rw [bit_test] at h
  have h1 : ¬ (y.toNat ^^^ (c.toNat / 2 ^ j)) % 2 = 1 := by
    intro h2
    rw [h2] at h
    cases h
  unfold bit
  rw [if_neg h1]
  simp
  omega
set_option maxHeartbeats 400000 in
theorem ref_c (sum : UInt32) (n0 : Int) (hn0 : n0 = (sum.toNat : Int)) (a : Option Addr) (cap : Nat) (l : List UInt8) (w : World) (hl : l.length ≤ 4611686018427387904) (hr : Rd w a (u8s l)) :
    Calls Tryd.prog 18 #[.int .u32 n0, .slice a l.length cap] w fun e w' => e = .returned (.int .u32 (more sum l).toNat) ∧ w = w' := by
  subst hn0
  go_enter Tryd.func18, Tryd.ntmps18
  go_wp2
  go_loop [5, 8, 9, 14] (fun x _ _ i => ∃ k : Nat, k ≤ l.length ∧ i = .int .i64 k ∧ x = .int .u32 (refRun (U32.nt sum) (l.take k)).toNat) (fun _ _ _ i => l.length - (intOf i).toNat)
  case atStart => exact ⟨0, Nat.zero_le _, rfl, rfl⟩
  case round =>
    obtain ⟨k, hk, rfl, rfl⟩ := hrel
    generalize hx : refRun (U32.nt sum) (l.take k) = x
    have Hx := Lib.hid hx
    clear hx
    by_cases hlt : k < l.length
    · obtain ⟨b, off, ha, hck⟩ := hr.u8 k hlt
      clear hr
      subst ha
      have hs : l.take (k + 1) = l.take k ++ [l[k]] := by simp
      generalize l[k] = c at *
      have Hs := Lib.hid hs
      clear hs
      go_wp2
      go_loop [5, 8, 9] (fun y i _b => ∃ j : Nat, j ≤ 8 ∧ i = .int .i64 j ∧ y = .int .u32 (bits8 x c j).toNat) (fun _ i _ => 8 - (intOf i).toNat)
      case atStart => exact ⟨0, by omega, rfl, rfl⟩
      case round =>
        obtain ⟨j, hj, rfl, rfl⟩ := hrel
        by_cases hj8 : j < 8
        · have h1 := bit_yes (bits8 x c j) c j
          have h2 := bit_no (bits8 x c j) c j
          have H1 := Lib.hid h1
          have H2 := Lib.hid h2
          clear h1 h2
          have hb : bits8 x c (j + 1) = bit (bits8 x c j) c j := rfl
          have Hb := Lib.hid hb
          clear hb
          generalize bits8 x c j = y at *
          go_wp2
          all_goals
            go_round
            case rel => first | exact ⟨j + 1, by omega, by go_num, by rw [Hb.out, ← H1.out (by assumption)]⟩ | exact ⟨j + 1, by omega, by go_num, by rw [Hb.out, ← H2.out (by assumption)]⟩
            case measure => simp [intOf]; omega
        · have : j = 8 := by omega
          subst this
          go_wp2
          go_round
          case rel => exact ⟨k + 1, by omega, by go_num, by rw [Hs.out]; unfold refRun; rw [List.foldl_append]; unfold refRun at Hx; rw [Hx.out]; rfl⟩
          case measure => simp [intOf]; omega
    · go_wp2
      go_ret
      refine ⟨?_, rfl⟩
      rw [List.take_of_length_le (by omega)] at Hx
      rw [← Hx.out, refRun_run]
      rfl
theorem ref_n (sum : UInt32) (n0 : Int) (hn0 : n0 = (sum.toNat : Int)) (a : Option Addr) (n cap : Nat) (l : List UInt8) (hn : l.length = n) (w : World) (hl : n ≤ 4611686018427387904) (hr : Rd w a (u8s l)) :
    Calls Tryd.prog 18 #[.int .u32 n0, .slice a n cap] w fun e w' => e = .returned (.int .u32 (more sum l).toNat) ∧ w = w' := by
  subst hn
  exact ref_c sum n0 hn0 a cap l w hl hr
end Crc
end Go.Proofs.YtjohljpcoodijaaDoor
