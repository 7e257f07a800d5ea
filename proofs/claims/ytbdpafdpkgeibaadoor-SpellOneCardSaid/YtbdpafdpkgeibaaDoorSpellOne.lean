/- dofferlaw05.SpellOne returns true. Condition: the sentinels read as laid. -/
import Derived.Test.YtbdpafdpkgeibaaDoorSpellText
namespace Go.Proofs.YtbdpafdpkgeibaaDoor
open Go Go.RowKit Kt
namespace Sp
theorem str_at {a : Option Addr} {l : List UInt8} {w : World} (hr : Rd w a (u8s l)) (n c : Nat) (hn : l.length = n) : (convert 45 9 (.slice a n c)).run Tryd.prog w = .ok (.string (Str l)) w := by
  subst hn
  exact str_run (P := Tryd.prog) (dst := 9) Num.elU8.ht Tryd.underlying5 Tryd.underlying9 hr c 0
set_option maxHeartbeats 2000000 in
set_option maxRecDepth 100000 in
theorem one_small (A : Nat → Addr) (a b : Option Addr) (ca cb na nb : Nat) (x y : List UInt8) (hna : x.length = na) (hnb : y.length = nb) (ha : na ≤ 200) (hb : nb ≤ 200) (w : World) (hra : Rd w a (u8s x)) (hrb : Rd w b (u8s y)) (hs : Sent 154 w A spks) :
    Calls Tryd.prog 6 #[.slice a na ca, .slice b nb cb] w fun e w' => e = .returned (.bool true) ∧ Below w.heap.size w w' := by
  have hd1 : decide (200 < (na : Int)) = false := by simp; omega
  have hd2 : decide (200 < (nb : Int)) = false := by simp; omega
  have hlx := (txt_len x).1
  have hly := (txt_len y).1
  have hadd := fun w => add_run (P := Tryd.prog) w (txt x) (txt y) (by omega)
  rw [← txt_append] at hadd
  have hadd2 := fun w => add_run (P := Tryd.prog) w x y (by omega)
  have hq : (txt x == txt y) = (x == y) := by
    by_cases h : x = y
    · subst h; simp
    · have h2 : ¬ txt x = txt y := fun e => h (txt_inj e)
      have e1 : (txt x == txt y) = false := by simpa using h2
      have e2 : (x == y) = false := by simpa using h
      rw [e1, e2]
  have l1 := Str_list (txt x)
  have l2 := Str_list (txt y)
  have l3 := Str_list x
  have l4 := Str_list y
  have HRA := Lib.hid hra
  have HRB := Lib.hid hrb
  have HS := Lib.hid hs
  have Hna := Lib.hid hna
  have Hnb := Lib.hid hnb
  clear hra hrb hs hna hnb hlx hly
  go_enter Tryd.func6, Tryd.ntmps6
  go_wp2_with fail
  refine (alive_c A w HS.out).mono ?_
  rintro e w1 ⟨rfl, hb1⟩
  go_wp2_with fail
  refine (text_c a ca na x w1 Hna.out (by omega) (HRA.out.keep hb1)).mono ?_
  rintro e w2 ⟨rfl, hb2⟩
  have hB2 := hb1.trans (hb2.mono hb1.size)
  go_wp2_with fail
  refine (text_c b cb nb y w2 Hnb.out (by omega) (HRB.out.keep hB2)).mono ?_
  rintro e w3 ⟨rfl, hb3⟩
  have hB3 := hB2.trans (hb3.mono hB2.size)
  clear hb1 hb2 hb3 hB2
  go_wp2_with fail
  refine (bytes_c A x w3 (by rw [Hna.out]; omega) (HS.out.keep hB3)).mono ?_
  rintro e w4 ⟨ax, cx, rfl, ox, hb4⟩
  have hB4 := hB3.trans (hb4.mono hB3.size)
  go_wp2_with fail
  refine (bytes_c A y w4 (by rw [Hnb.out]; omega) (HS.out.keep hB4)).mono ?_
  rintro e w5 ⟨ay, cy, rfl, oy, hb5⟩
  have hB5 := hB4.trans (hb5.mono hB4.size)
  have rx5 := (Rd.own ox).keep hb5
  have ry5 := Rd.own oy
  rw [Hna.out] at ox ⊢
  rw [Hnb.out] at oy ⊢
  clear hb4 hb5 hB3 hB4 ox oy
  have s1 := str_at (HRA.out.keep hB5) na ca Hna.out
  have s2 := str_at (HRB.out.keep hB5) nb cb Hnb.out
  have hbytes := bytes_c A (x ++ y) w5 (by rw [List.length_append, Hna.out, Hnb.out]; omega) (HS.out.keep hB5)
  have RX := Lib.hid rx5
  have RY := Lib.hid ry5
  have HB5 := Lib.hid hB5
  have HBY := Lib.hid hbytes
  clear rx5 ry5 hB5 hbytes
  obtain ⟨bq, hbq⟩ : ∃ bq, (x == y) = bq := ⟨_, rfl⟩
  rw [hbq] at hq
  cases bq
  all_goals
    go_wp2_with fail
    refine HBY.out.mono ?_
    rintro e w6 ⟨az, cz, rfl, oz, hb6⟩
    have hB6 := HB5.out.trans (hb6.mono HB5.out.size)
    rw [List.length_append, Hna.out, Hnb.out] at oz ⊢
    have t1 := str_at (Rd.own oz) (na + nb) cz (by rw [List.length_append, Hna.out, Hnb.out])
    have t2 := str_at (RX.out.keep hb6) na cx Hna.out
    have t3 := str_at (RY.out.keep hb6) nb cy Hnb.out
    have hS1 := same_bytes ax a cx ca na x w6 Hna.out (RX.out.keep hb6) (HRA.out.keep hB6)
    have HRY := Lib.hid (RY.out.keep hb6)
    have HB6 := Lib.hid hB6
    have HS1 := Lib.hid hS1
    clear oz hb6 hB6 hS1 s1 s2
    go_wp2_with fail
    refine HS1.out.mono ?_
    rintro e w7 ⟨rfl, hb7⟩
    have hB7 := HB6.out.trans (hb7.mono HB6.out.size)
    have hS2 := same_bytes ay b cy cb nb y w7 Hnb.out (HRY.out.keep hb7) (HRB.out.keep hB7)
    have HB7 := Lib.hid hB7
    have HS2 := Lib.hid hS2
    clear hb7 hB7 hS2 t1 t2 t3
    go_wp2_with fail
    refine HS2.out.mono ?_
    rintro e w8 ⟨rfl, hb8⟩
    go_wp2
    go_ret
    exact ⟨by first | rfl | simp, HB7.out.trans (hb8.mono HB7.out.size)⟩
set_option maxRecDepth 100000 in
theorem one_c (A : Nat → Addr) (a b : Option Addr) (ca cb na nb : Nat) (x y : List UInt8) (hna : x.length = na) (hnb : y.length = nb) (hma : na ≤ 9223372036854775807) (hmb : nb ≤ 9223372036854775807) (w : World) (hra : Rd w a (u8s x)) (hrb : Rd w b (u8s y)) (hs : Sent 154 w A spks) :
    Calls Tryd.prog 6 #[.slice a na ca, .slice b nb cb] w fun e w' => e = .returned (.bool true) ∧ Below w.heap.size w w' := by
  by_cases h : na ≤ 200 ∧ nb ≤ 200
  · exact one_small A a b ca cb na nb x y hna hnb h.1 h.2 w hra hrb hs
  · have HS := Lib.hid hs
    clear hs hra hrb hna hnb
    by_cases h1 : na ≤ 200
    · have h2 : ¬ nb ≤ 200 := fun e => h ⟨h1, e⟩
      have hd1 : decide (200 < (na : Int)) = false := by simp; omega
      have hd2 : decide (200 < (nb : Int)) = true := by simp; omega
      clear h
      go_enter Tryd.func6, Tryd.ntmps6
      go_wp2_with fail
      refine (alive_c A w HS.out).mono ?_
      rintro e w1 ⟨rfl, hb1⟩
      go_wp2
      go_ret
      exact ⟨rfl, hb1⟩
    · have hd1 : decide (200 < (na : Int)) = true := by simp; omega
      clear h
      go_enter Tryd.func6, Tryd.ntmps6
      go_wp2_with fail
      refine (alive_c A w HS.out).mono ?_
      rintro e w1 ⟨rfl, hb1⟩
      go_wp2
      go_ret
      exact ⟨rfl, hb1⟩
end Sp
end Go.Proofs.YtbdpafdpkgeibaaDoor
