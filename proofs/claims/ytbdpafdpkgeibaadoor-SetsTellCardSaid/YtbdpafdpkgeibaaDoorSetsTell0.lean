/- What the queries of sets answer, over definite data. Condition: the table of TrailingZeros64 reads as laid. -/
import Derived.Test.YtbdpafdpkgeibaaDoorSetsR4
import Derived.Test.YtbdpafdpkgeibaaDoorSetsN
namespace Go.Proofs.YtbdpafdpkgeibaaDoor
open Go Go.RowKit Kt
namespace St
open Mk
/-- A set's bytes. -/
def bts (ws : List Nat) : List UInt8 := (all ws).map UInt8.ofNat
theorem of_toNat (l : List UInt8) : (l.map UInt8.toNat).map UInt8.ofNat = l := by
  rw [List.map_map]
  have : ∀ x : UInt8, (UInt8.ofNat ∘ UInt8.toNat) x = x := fun x => by simp
  rw [List.map_congr_left (fun x _ => this x), List.map_id']
theorem bts_of {ws : List Nat} {l : List UInt8} (h : l.map UInt8.toNat = all ws) : bts ws = l := by
  unfold bts
  rw [← h]
  exact of_toNat l
theorem bts_nat {ws : List Nat} (h : ws.length = 4) : (bts ws).map UInt8.toNat = all ws := by
  unfold bts
  rw [List.map_map]
  have : ∀ x ∈ all ws, (UInt8.toNat ∘ UInt8.ofNat) x = x := fun x hx => by
    have := all_lt hx
    rw [h] at this
    show (UInt8.ofNat x).toNat = x
    simp
    omega
  rw [List.map_congr_left this, List.map_id']
theorem bts_len (ws : List Nat) : (bts ws).length = (all ws).length := by simp [bts]
theorem bts_row {ws : List Nat} (h : ws.length = 4) : (all ws).map k8 = u8s (bts ws) := by
  rw [← bts_nat h, List.map_map]
  rfl
theorem nth_bts {ws : List Nat} (h : ws.length = 4) (k : Nat) (hk : k < (bts ws).length) : nthOf (all ws) (k : Int) = ((bts ws)[k].toNat : Int) := by
  apply nth_in
  rw [← bts_nat h, List.getElem?_map, List.getElem?_eq_getElem hk]
  rfl
theorem list3_c (ws : List Nat) (f : Nat → Bool) (hw : IsSet ws f) (w : World) (hT : Bt.Tab w) : Calls Tryd.prog 47 #[sv ws] w fun e W' => ∃ a c, e = .returned (.slice a (bts ws).length c) ∧ Rd W' a (u8s (bts ws)) ∧ Below w.heap.size w W' := by
  refine (list2_c ws f hw w hT).mono ?_
  rintro e W' ⟨a, c, n, l, rfl, hn, _, hm, hr, hb⟩
  obtain rfl := bts_of hm
  subst hn
  exact ⟨a, c, rfl, hr, hb⟩
theorem rlist3_c (ws : List Nat) (f : Nat → Bool) (hw : IsSet ws f) (w : World) : Calls Tryd.prog 44 #[sv ws] w fun e W' => ∃ a c, e = .returned (.slice a (bts ws).length c) ∧ Rd W' a (u8s (bts ws)) ∧ Below w.heap.size w W' := by
  refine (rlist_c ws f hw w).mono ?_
  rintro e W' ⟨a, k, c, rfl, hk, hown, hb⟩
  rw [bts_row hw.len] at hown
  obtain rfl : (bts ws).length = k := by rw [bts_len]; exact hk
  exact ⟨a, c, rfl, Rd.own hown, hb⟩
theorem spans3_c (ws : List Nat) (f : Nat → Bool) (hw : IsSet ws f) (w : World) (hT : Bt.Tab w) : Calls Tryd.prog 46 #[sv ws] w fun e W' => ∃ a c, e = .returned (.slice a (sps (all ws)).length c) ∧ Rd W' a (brow (sps (all ws))) ∧ Below w.heap.size w W' := by
  refine (spans_c ws hw.len hw.lt w hT).mono ?_
  rintro e W' ⟨v, q, hq, rfl, hown, hb⟩
  rw [hq] at hown
  obtain ⟨a, c, rfl, _, _, hr, _⟩ := rd_own hown
  exact ⟨a, c, rfl, hr, hb⟩
theorem rspans3_c (ws : List Nat) (f : Nat → Bool) (hw : IsSet ws f) (w : World) : Calls Tryd.prog 45 #[sv ws] w fun e W' => ∃ a c, e = .returned (.slice a (2 * (sps (all ws)).length) c) ∧ Rd W' a ((flat (sps (all ws))).map k64) ∧ Below w.heap.size w W' := by
  refine (rspans_c ws f hw w).mono ?_
  rintro e W' ⟨a, k, c, rfl, hk, hown, hb⟩
  rw [flat_len] at hk
  subst hk
  exact ⟨a, c, rfl, Rd.own hown, hb⟩
theorem sps_256 {ws : List Nat} (h : ws.length = 4) : (sps (all ws)).length ≤ 256 ∧ ∀ p ∈ sps (all ws), p.1 < 256 ∧ p.2 < 256 :=
  ⟨Nat.le_trans (sps_len _) (all_256 h), sps_lt (fun x hx => by have := all_lt hx; rw [h] at this; exact this)⟩
end St
end Go.Proofs.YtbdpafdpkgeibaaDoor
