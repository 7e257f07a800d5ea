/- dofferlaw05.SpellWrites returns true. Condition: the sentinels read as laid. -/
import Derived.Test.YtbdpafdpkgeibaaDoorSpellLaw0
namespace Go.Proofs.YtbdpafdpkgeibaaDoor
open Go Go.RowKit Kt
namespace Sp
set_option maxHeartbeats 2000000 in
set_option maxRecDepth 100000 in
theorem writes_small (A : Nat → Addr) (c : UInt8) (a b : List UInt8) (ha : a.length ≤ 100) (hb : b.length ≤ 100) (w : World) (hs : Sent 154 w A spks) :
    Calls Tryd.prog 4 #[.int .u8 (c.toNat : Int), .string (Str a), .string (Str b)] w fun e w' => e = .returned (.bool true) ∧ Below w.heap.size w w' := by
  have hsa := Str_size a
  have hsb := Str_size b
  have hp := plain_c c
  have hi := inner_c c
  have hrp := rplain_c c
  have hri := rinner_c c
  have hsp := special_c c
  rw [special_eq c] at hsp
  have hl := sp_len c
  have r1 := rd_out a b c
  have r2 := rd_in a b c
  have hlt := c.toNat_lt
  generalize sp outs c = P at *
  generalize sp ins c = I at *
  obtain ⟨hl1, hl2, hl3, hl4⟩ := hl
  have hsP := Str_size P
  have hsI := Str_size I
  have a1 := fun w => add_run (P := Tryd.prog) w a P (by omega)
  have a2 := fun w => add_run (P := Tryd.prog) w (a ++ P) b (by simp; omega)
  have a3 := fun w => add_run (P := Tryd.prog) w a I (by omega)
  have a4 := fun w => add_run (P := Tryd.prog) w (a ++ I) b (by simp; omega)
  rw [List.append_assoc] at a2 a4
  have q1 := fun w hs => read_c A (Str (a ++ (P ++ b))) a.length (by rw [Str_size]; simp; omega) w hs
  have q2 := fun w hs => read_c A (Str (a ++ (I ++ b))) a.length (by rw [Str_size]; simp; omega) w hs
  rw [Str_toList, r1] at q1
  rw [Str_toList, r2] at q2
  simp only [resR] at q1 q2
  have hd1 : decide (100 < (a.length : Int)) = false := by simp; omega
  have hd2 : decide (100 < (b.length : Int)) = false := by simp; omega
  have e0 : evn A 0 = .nilIface := rfl
  rw [e0] at q1 q2
  have hgen : ∀ m : Bool, (decide (33 ≤ c.toNat) && decide (c.toNat ≤ 126) && decide (P.length = 2)) = m → (c.toNat < 33 ∧ m = false ∨ 126 < c.toNat ∧ 33 ≤ c.toNat ∧ m = false ∨ 33 ≤ c.toNat ∧ c.toNat ≤ 126 ∧ P.length = 2 ∧ m = true ∨ 33 ≤ c.toNat ∧ c.toNat ≤ 126 ∧ P.length ≠ 2 ∧ m = false) := by
    intro m hm
    subst hm
    by_cases g1 : 33 ≤ c.toNat <;> by_cases g2 : c.toNat ≤ 126 <;> by_cases g3 : P.length = 2 <;> simp [g1, g2, g3] <;> omega
  obtain ⟨m, hm⟩ : ∃ m, (decide (33 ≤ c.toNat) && decide (c.toNat ≤ 126) && decide (P.length = 2)) = m := ⟨_, rfl⟩
  rw [hm] at hsp
  have hcase := hgen m hm
  have HQ1 := Lib.hid q1
  have HQ2 := Lib.hid q2
  have HP := Lib.hid hp
  have HI := Lib.hid hi
  have HRP := Lib.hid hrp
  have HRI := Lib.hid hri
  have HSP := Lib.hid hsp
  have HS := Lib.hid hs
  clear hs hp hi hrp hri hsp q1 q2 r1 r2 hgen hm e0
  generalize c.toNat = n at *
  obtain ⟨la, hla⟩ : ∃ la, a.length = la := ⟨_, rfl⟩
  obtain ⟨lb, hlb⟩ : ∃ lb, b.length = lb := ⟨_, rfl⟩
  obtain ⟨lp, hlp⟩ : ∃ lp, P.length = lp := ⟨_, rfl⟩
  obtain ⟨li, hli⟩ : ∃ li, I.length = li := ⟨_, rfl⟩
  rw [hla] at ha hsa hd1 HQ1 HQ2
  rw [hlb] at hb hsb hd2
  rw [hlp] at hl1 hl2 hsP hcase HQ1
  rw [hli] at hl3 hl4 hsI HQ2
  clear hla hlb hlp hli
  rcases hcase with ⟨g1, rfl⟩ | ⟨g2, g1, rfl⟩ | ⟨g1, g2, rfl, rfl⟩ | ⟨g1, g2, g3, rfl⟩
  all_goals
    try (have g3' : ((lp : Int) == 2) = false := by simp; omega)
    go_enter Tryd.func4, Tryd.ntmps4
    go_wp2_with fail
    refine (alive_c A w HS.out).mono ?_
    rintro e w1 ⟨rfl, hb1⟩
    go_wp2_with fail
    refine (HP.out w1).mono ?_
    rintro e w2 ⟨rfl, hb2⟩
    have hB2 := hb1.trans (hb2.mono hb1.size)
    go_wp2_with fail
    refine (HI.out w2).mono ?_
    rintro e w3 ⟨rfl, hb3⟩
    have hB3 := hB2.trans (hb3.mono hB2.size)
    clear hb1 hb2 hb3 hB2
    go_wp2_with fail
    refine (HRP.out w3).mono ?_
    rintro e w4 ⟨rfl, hb4⟩
    have hB4 := hB3.trans (hb4.mono hB3.size)
    go_wp2_with fail
    refine (HRI.out w4).mono ?_
    rintro e w5 ⟨rfl, hb5⟩
    have hB5 := hB4.trans (hb5.mono hB4.size)
    go_wp2_with fail
    refine (HSP.out w5).mono ?_
    rintro e w6 ⟨rfl, rfl⟩
    clear hb4 hb5 hB3 hB4
    go_wp2_with fail
    refine (HQ1.out w5 (HS.out.keep hB5)).mono ?_
    rintro e w7 ⟨rfl, hb7⟩
    have hB7 := hB5.trans (hb7.mono hB5.size)
    go_wp2_with fail
    refine (HQ2.out w7 (HS.out.keep hB7)).mono ?_
    rintro e w8 ⟨rfl, hb8⟩
    have hB8 := hB7.trans (hb8.mono hB7.size)
    clear hb7 hb8 hB5 hB7
    go_wp2
    go_ret
    exact ⟨by first | rfl | simp, hB8⟩
set_option maxRecDepth 100000 in
theorem writes_c (A : Nat → Addr) (c : UInt8) (s t : ByteArray) (w : World) (hs : Sent 154 w A spks) :
    Calls Tryd.prog 4 #[.int .u8 (c.toNat : Int), .string s, .string t] w fun e w' => e = .returned (.bool true) ∧ Below w.heap.size w w' := by
  by_cases h : s.size ≤ 100 ∧ t.size ≤ 100
  · have h1 : s = Str s.data.toList := (Lib.mk_data s).symm
    have h2 : t = Str t.data.toList := (Lib.mk_data t).symm
    rw [h1, h2]
    exact writes_small A c _ _ (by rw [← size_list]; exact h.1) (by rw [← size_list]; exact h.2) w hs
  · by_cases h1 : s.size ≤ 100
    · have h2 : ¬ t.size ≤ 100 := fun e => h ⟨h1, e⟩
      have hd1 : decide (100 < (s.size : Int)) = false := by simp; omega
      have hd2 : decide (100 < (t.size : Int)) = true := by simp; omega
      clear h
      go_enter Tryd.func4, Tryd.ntmps4
      go_wp2_with fail
      refine (alive_c A w hs).mono ?_
      rintro e w1 ⟨rfl, hb1⟩
      go_wp2
      go_ret
      exact ⟨rfl, hb1⟩
    · have hd1 : decide (100 < (s.size : Int)) = true := by simp; omega
      clear h
      go_enter Tryd.func4, Tryd.ntmps4
      go_wp2_with fail
      refine (alive_c A w hs).mono ?_
      rintro e w1 ⟨rfl, hb1⟩
      go_wp2
      go_ret
      exact ⟨rfl, hb1⟩
end Sp
end Go.Proofs.YtbdpafdpkgeibaaDoor
