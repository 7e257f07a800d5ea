/- dofferlaw31: lists of acts; long. -/
import Derived.Test.YtpjimmdpcpcmoaaDoorQChnWithin
namespace Go.Proofs.YtpjimmdpcpcmoaaDoor
open Go Go.RowKit Kt
namespace Ch
open Po
variable {w w' w2 w3 W : World}
/-- An act's four cells. -/
structure AcC where
  k : Int
  n : Int
  a : Option Addr
  b : List UInt8
  cap : Nat
  wh : Bool
instance : Inhabited AcC := ⟨⟨0, 0, none, [], 0, false⟩⟩
def ac4 (x : AcC) : List Value := [.int .i64 x.k, .int .i64 x.n, .slice x.a x.b.length x.cap, .bool x.wh]
/-- An act whose bytes can be read. -/
def AcC.ok (w : World) (x : AcC) : Prop := Rd w x.a (u8s x.b) ∧ (x.a = none → x.cap = 0) ∧ x.b.length ≤ x.cap ∧ x.cap ≤ maxLen ∧ (Lit.int .i64 x.n).wf = true ∧ (Lit.int .i64 x.k).wf = true
def lg (l : List AcC) : Bool := decide (60 < l.length) || l.any fun x => decide (200 < x.b.length)
theorem lg_no {l : List AcC} (h : lg l = false) : l.length ≤ 60 ∧ ∀ x ∈ l, x.b.length ≤ 200 := by
  unfold lg at h
  simp only [Bool.or_eq_false_iff, decide_eq_false_iff_not, List.any_eq_false, decide_eq_true_eq] at h
  exact ⟨by omega, fun x hx => by have := h.2 x hx; omega⟩
set_option maxRecDepth 100000 in
set_option maxHeartbeats 2000000 in
theorem long_c (a : Option Addr) (cap : Nat) (l : List AcC) (w : World) (hl : l.length ≤ 9223372036854775807) (hr : Rd w a (l.flatMap ac4)) (hb : ∀ x ∈ l, x.b.length ≤ 9223372036854775807) :
    Calls Tryd.prog 34 #[.slice a l.length cap] w fun e w' => e = .returned (.bool (lg l)) ∧ Below w.heap.size w w' := by
  obtain ⟨N, hN⟩ : ∃ N, l.length = N := ⟨_, rfl⟩
  have HR := Lib.hid hr
  have HN := Lib.hid hN
  have HBl := Lib.hid hb
  by_cases h60 : 60 < N
  · have hlg : lg l = true := by unfold lg; rw [hN, decide_eq_true h60]; rfl
    rw [hN, hlg]
    have hd : decide ((60 : Int) < (N : Int)) = true := by simp; omega
    clear hl hr hb hN hlg
    go_enter Tryd.func34, Tryd.ntmps34
    go_wp2
    go_ret
    exact ⟨rfl, Below.refl _ _⟩
  · have hlg : lg l = l.any fun x => decide (200 < x.b.length) := by unfold lg; rw [hN, decide_eq_false h60]; rfl
    rw [hN, hlg]
    rw [hN] at hl
    have hd : decide ((60 : Int) < (N : Int)) = false := by simp; omega
    clear hr hb hN hlg
    go_enter Tryd.func34, Tryd.ntmps34
    go_wp2
    go_loopw [4, 10] (fun _ i W => ∃ j : Nat, j ≤ N ∧ i = .int .i64 (j : Int) ∧ (∀ x ∈ l.take j, x.b.length ≤ 200) ∧ Below w.heap.size w W) (fun _ i _ => N - (cj i).toNat)
    case atStart => exact ⟨0, Nat.zero_le _, rfl, by simp, Below.refl _ _⟩
    case round =>
      obtain ⟨j, hj, rfl, hno, hB⟩ := hrel
      by_cases hjN : j < N
      · have hjl : j < l.length := by rw [HN.out]; exact hjN
        obtain ⟨b, off, ha, hcs⟩ := (HR.out.keep hB).struct 4 (by intro z _; rfl) j hjl (by omega)
        have k0 := hcs 0 _ rfl (by omega)
        have k1 := hcs 1 _ rfl (by omega)
        have k2 := hcs 2 _ rfl (by omega)
        have k3 := hcs 3 _ rfl (by omega)
        have hmem := List.getElem_mem hjl
        have hbl := HBl.out _ hmem
        have hnx : l.take (j + 1) = l.take j ++ [l[j]] := List.take_succ_eq_append_getElem hjl
        clear hcs
        subst ha
        generalize l[j] = act at *
        obtain ⟨kd, n, aa, bs, cp, wh⟩ := act
        simp only [Nat.add_zero] at k0 k1 k2 k3 hbl
        rw [← Nat.add_assoc] at k1 k2 k3
        have hB4 := Lib.hid (fun o => hB.alloc hB.size o)
        obtain ⟨m, hm⟩ : ∃ m, bs.length = m := ⟨_, rfl⟩
        rw [hm] at k2 hbl
        by_cases h200 : 200 < m
        · have hd2 : decide ((200 : Int) < (m : Int)) = true := by simp; omega
          have hany : (l.any fun x => decide (200 < x.b.length)) = true := List.any_eq_true.2 ⟨_, hmem, by simp only [hm]; exact decide_eq_true h200⟩
          have HA := Lib.hid hany
          clear hno hB hany hmem hnx hm
          go_wp2
          go_ret
          exact ⟨by rw [HA.out]; rfl, hB4.out _⟩
        · have hd2 : decide ((200 : Int) < (m : Int)) = false := by simp; omega
          have HNo := Lib.hid (And.intro hno (And.intro hnx hm))
          clear hno hB hmem hnx hm
          go_wp2
          go_roundw
          case rel =>
            refine ⟨j + 1, by omega, by go_num, fun x hx => ?_, hB4.out _⟩
            rw [HNo.out.2.1] at hx
            rcases List.mem_append.1 hx with h | h
            · exact HNo.out.1 x h
            · simp only [List.mem_singleton] at h
              subst h
              have h1 := HNo.out.2.2
              simp only
              omega
          case measure => simp [cj]; omega
      · obtain rfl : j = N := by omega
        have hany : (l.any fun x => decide (200 < x.b.length)) = false := by
          rw [List.any_eq_false]
          intro x hx
          have h1 := HN.out
          rw [← h1, List.take_length] at hno
          have := hno x hx
          simp only [decide_eq_true_eq]
          omega
        have HA := Lib.hid hany
        have HB := Lib.hid hB
        clear hno hB hany
        go_wp2
        go_ret
        exact ⟨by rw [HA.out]; rfl, HB.out⟩
end Ch
end Go.Proofs.YtpjimmdpcpcmoaaDoor
