/- dofferlaw04.PackOne returns true. Condition: the sentinels read as laid. -/
import Derived.Test.YtjohljpcoodijaaDoorPackOut
namespace Go.Proofs.YtjohljpcoodijaaDoor
open Go Go.RowKit Kt
namespace Pk
theorem dec_le {l : List UInt8} {n s : Nat} (h : dec 0 0 l = .ok (n, s)) : n ≤ 2147483647 ∧ s ≤ l.length ∧ (enc n).length = s ∧ l.take s = enc n := by
  obtain ⟨n0, h1, _, h3, h4, h5, h6⟩ := dec_ok _ _ _ _ _ h
  have e : n = n0 := by rw [h1, Nat.pow_zero]; omega
  subst e
  rw [Nat.zero_add] at h3
  rw [h3]
  exact ⟨h5, h6, rfl, h4⟩
set_option maxHeartbeats 2000000 in
set_option maxRecDepth 100000 in
theorem one_c (A : Nat → Addr) (a : Option Addr) (cap n : Nat) (l : List UInt8) (w : World) (hn : l.length = n) (h63 : n ≤ 9223372036854775807) (hcap : n ≤ cap) (hcm : cap ≤ maxLen) (hno : a = none → cap = 0) (hr : Rd w a (u8s l)) (hs : Sent 152 w A pks) :
    Calls Tryd.prog 7 #[.slice a n cap] w fun e w' => e = .returned (.bool true) ∧ Below w.heap.size w w' := by
  by_cases h100 : n ≤ 100
  · have hd : decide (100 < n) = false := by simp; omega
    go_enter Tryd.func7, Tryd.ntmps7
    go_wp2_with fail
    refine (alive_c w).mono ?_
    rintro e w1 ⟨rfl, hb1⟩
    go_wp2_with fail
    refine (read_c a cap n l w1 hn (by omega) hno (hr.keep hb1)).mono ?_
    rintro e w2 ⟨p, rfl, hp, hI, hb2⟩
    have hB2 := hb1.trans (hb2.mono hb1.size)
    go_wp2_with fail
    refine (num_c A 9223372036854775807 0 w2 hI (by omega) (hs.keep hB2)).mono ?_
    rintro e w3 ⟨rfl, hI3, hM3⟩
    have hB3 : Below w.heap.size w w3 := hB2.trans (hM3.toBelow hB2.size (by have := hb1.size; simp; omega))
    cases hdc : dec 0 0 l with
    | error g =>
      have hv : numV 9223372036854775807 l 0 = (0, l, g) := by unfold numV; rw [if_pos rfl, hdc]
      obtain ⟨ad, had⟩ := evn_ne A (g := g) (by have := dec_err _ _ _ _ hdc; omega)
      rw [hv] at hI3 ⊢
      simp only [had] at hI3
      have HB := Lib.hid hB3
      clear hv had hdc hI hb1 hb2 hB2 hM3 hB3
      go_wp2_with fail
      refine (err_c _ hI3).mono ?_
      rintro e w4 ⟨rfl, rfl⟩
      clear hI3
      go_wp2
      go_ret
      exact ⟨rfl, HB.out⟩
    | ok ns =>
      obtain ⟨m, s⟩ := ns
      obtain ⟨hm31, hsl, hel, htk⟩ := dec_le hdc
      have hv : numV 9223372036854775807 l 0 = ((m : Int), l.drop s, 0) := by unfold numV; rw [if_pos rfl, hdc]; simp only; rw [if_neg (by omega)]
      rw [hv] at hI3 ⊢
      have hI3' : InS w3 p (l.drop s) .nilIface := hI3
      have hsn : s ≤ n := by omega
      have hdl : (l.drop s).length = n - s := by rw [List.length_drop, hn]
      have HB := Lib.hid hB3
      have HT := Lib.hid htk
      have HE := Lib.hid hel
      have Hdl := Lib.hid hdl
      have Hn := Lib.hid hn
      clear hv hdc hI hb1 hb2 hB2 hM3 hB3 hI3 htk hel hsl hdl hn
      go_wp2_with fail
      refine (err_c _ hI3').mono ?_
      rintro e w4 ⟨rfl, rfl⟩
      go_wp2_with fail
      have hb4 := (Below.refl w3.heap.size w3).alloc (Nat.le_refl _) (.cells #[.slice none 0 0, .nilIface] 76)
      refine (onum_ok m _ (out_new w3) hm31 (by simp)).mono ?_
      rintro e w5 ⟨rfl, g5, hO, hM, hF⟩
      have hB5 : Below w3.heap.size w3 w5 := hb4.trans (hM.toBelow hb4.size (by simp))
      rw [List.nil_append] at hO
      go_wp2_with fail
      refine (odone_ok s HE.out _ hO (by omega)).mono ?_
      rintro e w6 ⟨a6, c6, rfl, own, hb6⟩
      have hB6 := hB5.trans (hb6.mono hB5.size)
      have hI6 := hI3'.below hB6
      have hcv := fun nq => str_run (P := Tryd.prog) (dst := 9) Num.elU8.ht Tryd.underlying5 Tryd.underlying9 (Rd.own own) c6 nq
      have hr6 := (hr.keep (HB.out.trans (hB6.mono HB.out.size))).take s
      have hr6' : Rd w6 a (u8s (l.take s)) := by have := hr6; rw [u8s, ← List.map_take] at this; exact this
      rw [HT.out] at hr6'
      have hcv2 := fun nq => str_run (P := Tryd.prog) (dst := 9) Num.elU8.ht Tryd.underlying5 Tryd.underlying9 hr6' cap nq
      simp only [HE.out] at hcv hcv2
      have hL := left_c w6 hI6
      rw [Hdl.out] at hL
      have hL2 : ∀ nq, Calls Tryd.prog 49 #[.pointer (some ⟨p, 0, none⟩)] (w6.drewN nq) fun e w' => e = .returned (.int .i64 (n - s : Nat)) ∧ w6.drewN nq = w' := by
        intro nq
        have := left_c (w6.drewN nq) (hI6.below (below_drewN (Below.refl _ _) nq))
        rwa [Hdl.out] at this
      have HB6 := Lib.hid (HB.out.trans (hB6.mono HB.out.size))
      have hsum : ((s : Int) + ((n - s : Nat) : Int) == (n : Int)) = true := by simp; omega
      have hcapI : cap ≤ 9223372036854775807 := by unfold maxLen at hcm; exact hcm
      have hsc : s ≤ cap := by omega
      have hss : s ≤ 100 := by omega
      have hg0 : decide ((0 : Int) ≤ ((n - s : Nat) : Int)) = true := by simp
      have hww : IntKind.i64.wrap ((s : Int) + ((n - s : Nat) : Int)) = (s : Int) + ((n - s : Nat) : Int) := IntWalk.i64_in _ ⟨by omega, by omega⟩
      have HL := Lib.hid hL2
      clear hO hM hF own hb6 hB5 hB6 hb4 hI3' hr6 hr6' hL hL2 hI6
      go_wp2_with fail
      go_quiet ((go_at_call 49; exact Calls.quiet_of_same ((HL.out _).mono fun _ _ ⟨h1, h2⟩ => ⟨h1, h2.symm⟩)))
      go_wp2
      go_ret
      exact ⟨by first | rfl | simp, below_drewN HB6.out _⟩
  · have hd : decide (100 < n) = true := by simp; omega
    go_enter Tryd.func7, Tryd.ntmps7
    go_wp2_with fail
    refine (alive_c w).mono ?_
    rintro e w1 ⟨rfl, hb1⟩
    go_wp2
    go_ret
    exact ⟨rfl, hb1⟩
end Pk
end Go.Proofs.YtjohljpcoodijaaDoor
