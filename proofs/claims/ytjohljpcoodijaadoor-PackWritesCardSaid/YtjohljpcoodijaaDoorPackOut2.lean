/- The walks of package pack: Out's Byte, Bytes, Text, Row. Condition where an error is answered: the sentinels read as laid. -/
import Derived.Test.YtjohljpcoodijaaDoorPackOut
import Derived.Test.YtjohljpcoodijaaDoorStr
namespace Go.Proofs.YtjohljpcoodijaaDoor
open Go Go.RowKit Kt
namespace Pk
variable {w w' : World} {p : Nat} {g : List Nat} {bs : List UInt8} {ev : Value}
theorem Rd.mod' {S : List Nat} {w w' : World} {a : Option Addr} {xs : List Value} (h : Rd w a xs) (hM : Mod S w w') (hn : xs ≠ [] → ∀ q, a = some q → q.block ∉ S) : Rd w' a xs := by
  by_cases he : xs = []
  · subst he; exact Rd.nil _ _
  · exact h.mod hM (hn he)
theorem modTrans {w w1 w2 : World} {p : Nat} {g g' : List Nat} (h1 : Mod (p :: g) w w1) (h2 : Mod (p :: g') w1 w2) (hF : Fr g' g w.heap.size) : Mod (p :: g) w w2 :=
  h1.trans h2 (fun k hk => by
    rcases List.mem_cons.1 hk with rfl | hk
    · left; simp
    · rcases hF k hk with h1 | h1
      · left; simp [h1]
      · right; exact h1)
/-- A writer's state: whether a number could not be written; else what was written. -/
def OSt (A : Nat → Addr) (w : World) (p : Nat) (g : List Nat) (bad : Bool) (bs : List UInt8) : Prop := if bad then ∃ bs', bs'.length ≤ 1000000 ∧ OutS w p g bs' (Er.ev A 1) else OutS w p g bs .nilIface

set_option maxHeartbeats 1000000 in
set_option maxRecDepth 100000 in
theorem byte_ok (c : UInt8) (v : Value) (hv : v = .int .u8 (c.toNat : Int)) (w : World) (h : OutS w p g bs .nilIface) (h63 : bs.length ≤ 1000000) :
    Calls Tryd.prog 71 #[.pointer (some ⟨p, 0, none⟩), v] w fun e w' => e = .returned (.tuple #[]) ∧ ∃ g', OutS w' p g' (bs ++ [c]) .nilIface ∧ Mod (p :: g) w w' ∧ Fr g' g w.heap.size := by
  subst hv
  have b1 := (Below.refl w.heap.size w).alloc (Nat.le_refl _) (.cells #[.int .u8 (c.toNat : Int)] 5)
  have hR := raw_c (some ⟨w.heap.size, 0, none⟩) 1 1 [c] _ (h.below b1) rfl (Rd.new w #[.int .u8 (c.toNat : Int)] 5 (0, 0) _ rfl) (fun h => by cases h) (by omega)
  have HB := Lib.hid b1
  clear h b1
  go_enter Tryd.func71, Tryd.ntmps71
  go_wp2_with fail
  refine hR.mono ?_
  rintro e w5 ⟨rfl, g5, hO, hM, hF⟩
  have HO := Lib.hid hO
  have HM := Lib.hid ((Mod.of_below HB.out (p :: g)).trans hM (fun k hk => .inl hk))
  have HF := Lib.hid (show Fr g5 g w.heap.size from fun k hk => by rcases hF k hk with h1 | h1; exact .inl h1; right; have := HB.out.size; omega)
  clear hO hM hF
  go_wp2
  go_end0
  exact ⟨rfl, g5, HO.out, HM.out, HF.out⟩
set_option maxHeartbeats 1000000 in
set_option maxRecDepth 100000 in
theorem byte_no (c : Int) (w : World) (h : OutS w p g bs (.iface 152 ev)) :
    Calls Tryd.prog 71 #[.pointer (some ⟨p, 0, none⟩), .int .u8 c] w fun e w' => e = .returned (.tuple #[]) ∧ Below w.heap.size w w' := by
  have b1 := (Below.refl w.heap.size w).alloc (Nat.le_refl _) (.cells #[.int .u8 c] 5)
  have hR := raw_no (.slice (some ⟨w.heap.size, 0, none⟩) 1 1) _ (h.below b1)
  have HB := Lib.hid b1
  clear h b1
  go_enter Tryd.func71, Tryd.ntmps71
  go_wp2_with fail
  refine hR.mono ?_
  rintro e w5 ⟨rfl, rfl⟩
  go_wp2
  go_end0
  exact ⟨rfl, HB.out⟩

set_option maxHeartbeats 1000000 in
set_option maxRecDepth 100000 in
theorem bytes_ok (a : Option Addr) (c m : Nat) (l : List UInt8) (w : World) (h : OutS w p g bs .nilIface) (hl : l.length = m) (hr : Rd w a (u8s l)) (hra : u8s l ≠ [] → ∀ q, a = some q → q.block ∉ p :: g) (hno : a = none → c = 0) (hm : m ≤ 1000) (h63 : bs.length ≤ 1000000) :
    Calls Tryd.prog 72 #[.pointer (some ⟨p, 0, none⟩), .slice a m c] w fun e w' => e = .returned (.tuple #[]) ∧ ∃ g', OutS w' p g' (bs ++ (enc m ++ l)) .nilIface ∧ Mod (p :: g) w w' ∧ Fr g' g w.heap.size := by
  have H := Lib.hid h
  have HR := Lib.hid hr
  have HL := Lib.hid hl
  have HA := Lib.hid hra
  clear h hr hl hra
  go_enter Tryd.func72, Tryd.ntmps72
  go_wp2_with fail
  refine (onum_ok m w H.out (by omega) (by omega)).mono ?_
  rintro e w5 ⟨rfl, g5, hO, hM, hF⟩
  have hr5 := Rd.mod' HR.out hM HA.out
  have hlen := enc_len5 (n := m) (by omega)
  have HO := Lib.hid hO
  have HM := Lib.hid hM
  have HF := Lib.hid hF
  have HR5 := Lib.hid hr5
  have HLen := Lib.hid (show (bs ++ enc m).length + m ≤ 70368744177664 by rw [List.length_append]; omega)
  clear hO hM hF hr5 hlen HR
  go_wp2_with fail
  refine (raw_c a c m l w5 HO.out HL.out HR5.out hno HLen.out).mono ?_
  rintro e w6 ⟨rfl, g6, hO6, hM6, hF6⟩
  have HO6 := Lib.hid hO6
  have HM6 := Lib.hid (modTrans HM.out hM6 HF.out)
  have HF6 := Lib.hid (hF6.trans HF.out HM.out.size)
  clear hO6 hM6 hF6
  go_wp2
  go_end0
  exact ⟨rfl, g6, by rw [← List.append_assoc]; exact HO6.out, HM6.out, HF6.out⟩
set_option maxHeartbeats 1000000 in
set_option maxRecDepth 100000 in
theorem bytes_no (a : Option Addr) (c m : Nat) (w : World) (h : OutS w p g bs (.iface 152 ev)) :
    Calls Tryd.prog 72 #[.pointer (some ⟨p, 0, none⟩), .slice a m c] w fun e w' => e = .returned (.tuple #[]) ∧ w = w' := by
  have H := Lib.hid h
  clear h
  go_enter Tryd.func72, Tryd.ntmps72
  go_wp2_with fail
  refine (onum_no _ w H.out).mono ?_
  rintro e w5 ⟨rfl, rfl⟩
  go_wp2_with fail
  refine (raw_no _ w H.out).mono ?_
  rintro e w6 ⟨rfl, rfl⟩
  go_wp2
  go_end0
  exact ⟨rfl, rfl⟩
set_option maxHeartbeats 1000000 in
set_option maxRecDepth 100000 in
theorem text_ok (l : List UInt8) (w : World) (h : OutS w p g bs .nilIface) (hm : l.length ≤ 1000) (h63 : bs.length ≤ 1000000) :
    Calls Tryd.prog 73 #[.pointer (some ⟨p, 0, none⟩), .string (Str l)] w fun e w' => e = .returned (.tuple #[]) ∧ ∃ g', OutS w' p g' (bs ++ (enc l.length ++ l)) .nilIface ∧ Mod (p :: g) w w' ∧ Fr g' g w.heap.size := by
  obtain ⟨c, w1, hcv, hr, hB, hc1, hc2⟩ := tobytes_run (P := Tryd.prog) w (src := 9) (dst := 24) Tryd.underlying9 Tryd.underlying24 Tryd.underlying5 l (by unfold maxLen; omega)
  have hlts := h.lts
  have hb := bytes_ok (some ⟨w.heap.size, 0, none⟩) c l.length l w1 (h.below hB) rfl hr (by
    intro _ q hq hm
    obtain rfl := Option.some.inj hq
    exact Nat.lt_irrefl _ (hlts _ hm)) (fun h => by cases h) hm h63
  have HB := Lib.hid hB
  clear h hr hB hc1 hc2 hlts
  go_enter Tryd.func73, Tryd.ntmps73
  go_wp2_with fail
  refine hb.mono ?_
  rintro e w5 ⟨rfl, g5, hO, hM, hF⟩
  have HO := Lib.hid hO
  have HM := Lib.hid ((Mod.of_below HB.out (p :: g)).trans hM (fun k hk => .inl hk))
  have HF := Lib.hid (show Fr g5 g w.heap.size from fun k hk => by rcases hF k hk with h1 | h1; exact .inl h1; right; have := HB.out.size; omega)
  clear hO hM hF
  go_wp2
  go_end0
  exact ⟨rfl, g5, HO.out, HM.out, HF.out⟩
set_option maxHeartbeats 1000000 in
set_option maxRecDepth 100000 in
theorem text_no (l : List UInt8) (w : World) (h : OutS w p g bs (.iface 152 ev)) (hm : l.length ≤ 1000) :
    Calls Tryd.prog 73 #[.pointer (some ⟨p, 0, none⟩), .string (Str l)] w fun e w' => e = .returned (.tuple #[]) ∧ Below w.heap.size w w' := by
  obtain ⟨c, w1, hcv, hr, hB, hc1, hc2⟩ := tobytes_run (P := Tryd.prog) w (src := 9) (dst := 24) Tryd.underlying9 Tryd.underlying24 Tryd.underlying5 l (by unfold maxLen; omega)
  have hb := bytes_no (some ⟨w.heap.size, 0, none⟩) c l.length w1 (h.below hB)
  have HB := Lib.hid hB
  clear h hr hB hc1 hc2
  go_enter Tryd.func73, Tryd.ntmps73
  go_wp2_with fail
  refine hb.mono ?_
  rintro e w5 ⟨rfl, rfl⟩
  go_wp2
  go_end0
  exact ⟨rfl, HB.out⟩

/-- A row's numbers: which can't be written; the bytes. -/
def nbad (n : Int) : Bool := decide (n < -1 ∨ 2147483646 < n)
def encs (l : List Int) : List UInt8 := l.flatMap fun n => enc (n + 1).toNat
def encRow (l : List Int) : List UInt8 := enc l.length ++ encs l
theorem encs_snoc (l : List Int) (x : Int) : encs (l ++ [x]) = encs l ++ enc (x + 1).toNat := by simp [encs]
theorem encs_len (l : List Int) (h : l.any nbad = false) : (encs l).length ≤ 5 * l.length := by
  induction l with
  | nil => simp [encs]
  | cons x l ih =>
    simp only [List.any_cons, Bool.or_eq_false_iff] at h
    have h1 := ih h.2
    have h2 : ¬ (x < -1 ∨ 2147483646 < x) := by simpa [nbad] using h.1
    have h3 := enc_len5 (n := (x + 1).toNat) (by omega)
    have e : encs (x :: l) = enc (x + 1).toNat ++ encs l := rfl
    rw [e, List.length_append, List.length_cons]
    omega
/-- The loop's relation: the numbers before the k-th. -/
def RwR (A : Nat → Addr) (w : World) (p : Nat) (g : List Nat) (bs : List UInt8) (l : List Int) (n : Nat) (i : Value) (W : World) : Prop :=
  ∃ (k : Nat) (g' : List Nat), k ≤ n ∧ i = .int .i64 k ∧ OSt A W p g' ((l.take k).any nbad) (bs ++ (enc n ++ encs (l.take k))) ∧ Mod (p :: g) w W ∧ Fr g' g w.heap.size
set_option maxHeartbeats 2000000 in
set_option maxRecDepth 100000 in
theorem row_c (A : Nat → Addr) (a : Option Addr) (c n : Nat) (l : List Int) (w : World) (h : OutS w p g bs .nilIface) (hl : l.length = n) (hr : Rd w a (i64s l)) (hra : i64s l ≠ [] → ∀ q, a = some q → q.block ∉ p :: g) (hm : n ≤ 1000) (h63 : bs.length ≤ 900000) (w0 : World) (hs : Sent 152 w0 A pks) (hB0 : Below w0.heap.size w0 w) (hsg : ∀ k ∈ p :: g, w0.heap.size ≤ k) :
    Calls Tryd.prog 74 #[.pointer (some ⟨p, 0, none⟩), .slice a n c] w fun e w' => e = .returned (.tuple #[]) ∧ ∃ g', OSt A w' p g' (l.any nbad) (bs ++ encRow l) ∧ Mod (p :: g) w w' ∧ Fr g' g w.heap.size := by
  have H := Lib.hid h
  have HR := Lib.hid hr
  have HL := Lib.hid hl
  have HA := Lib.hid hra
  clear h hr hl hra
  go_enter Tryd.func74, Tryd.ntmps74
  go_wp2_with fail
  refine (onum_ok n w H.out (by omega) (by omega)).mono ?_
  rintro e w5 ⟨rfl, g5, hO, hM, hF⟩
  have HO := Lib.hid hO
  have HM := Lib.hid hM
  have HF := Lib.hid hF
  clear hO hM hF
  go_wp2_with fail
  go_loopw [5, 12] (fun _ i W => RwR A w p g bs l n i W) (fun _ i _ => n - (intOf i).toNat)
  case atStart => exact ⟨0, g5, Nat.zero_le _, rfl, by simpa [OSt, encs] using HO.out, HM.out, HF.out⟩
  case round =>
    clear HO HM HF
    obtain ⟨k, g', hk, rfl, hO, hM, hF⟩ := hrel
    by_cases hlt : k < n
    · have hkl : k < l.length := by rw [HL.out]; exact hlt
      have hsW := hs.keep (hB0.trans (hM.toBelow hB0.size hsg))
      have hrW := Rd.mod' HR.out hM HA.out
      obtain ⟨b, off, ha, hc⟩ := hrW.i64 k hkl
      have htk : l.take (k + 1) = l.take k ++ [l[k]] := by simp
      generalize l[k] = x at *
      have hany : (l.take (k + 1)).any nbad = ((l.take k).any nbad || nbad x) := by rw [htk]; simp
      have henc : bs ++ (enc n ++ encs (l.take (k + 1))) = (bs ++ (enc n ++ encs (l.take k))) ++ enc (x + 1).toNat := by rw [htk, encs_snoc]; simp
      subst ha
      have HAny := Lib.hid hany
      have HEnc := Lib.hid henc
      have HM := Lib.hid hM
      have HF := Lib.hid hF
      clear htk hany henc hrW hM hF
      cases hb : (l.take k).any nbad with
      | true =>
        rw [hb] at hO
        obtain ⟨bs', hbs', hO'⟩ : ∃ bs' : List UInt8, bs'.length ≤ 1000000 ∧ OutS wr p g' bs' (Er.ev A 1) := hO
        unfold Er.ev at hO'
        have HB := Lib.hid hb
        clear hb
        by_cases hx : x < -1 ∨ 2147483646 < x
        · rcases hx with hx | hx
          · have hd : decide (x < -1) = true := by simpa using hx
            clear hx
            go_wp2_with fail
            refine (onum_no _ wr hO').mono ?_
            rintro e w6 ⟨rfl, rfl⟩
            have HO' := Lib.hid hO'
            clear hO'
            go_wp2
            go_roundw
            case rel => first | exact ⟨k + 1, g', by omega, by go_num, by rw [HAny.out, HB.out, Bool.true_or]; exact ⟨bs', hbs', HO'.out⟩, HM.out, HF.out⟩ | ((repeat apply Exists.intro); refine ⟨?r, ?f⟩; (case f => (and_intros <;> rfl)); exact ⟨k + 1, g', by omega, by go_num, by rw [HAny.out, HB.out, Bool.true_or]; exact ⟨bs', hbs', HO'.out⟩, HM.out, HF.out⟩)
            case measure => simp [intOf]; omega
          · have hd : decide (x < -1) = false := by simp; omega
            have hd2 : decide (2147483647 ≤ x) = true := by simp; omega
            clear hx
            go_wp2_with fail
            refine (onum_no _ wr hO').mono ?_
            rintro e w6 ⟨rfl, rfl⟩
            have HO' := Lib.hid hO'
            clear hO'
            go_wp2
            go_roundw
            case rel => first | exact ⟨k + 1, g', by omega, by go_num, by rw [HAny.out, HB.out, Bool.true_or]; exact ⟨bs', hbs', HO'.out⟩, HM.out, HF.out⟩ | ((repeat apply Exists.intro); refine ⟨?r, ?f⟩; (case f => (and_intros <;> rfl)); exact ⟨k + 1, g', by omega, by go_num, by rw [HAny.out, HB.out, Bool.true_or]; exact ⟨bs', hbs', HO'.out⟩, HM.out, HF.out⟩)
            case measure => simp [intOf]; omega
        · have hd : decide (x < -1) = false := by simp; omega
          have hd2 : decide (2147483647 ≤ x) = false := by simp; omega
          have hx1 : -1 ≤ x := by omega
          have hx2 : x ≤ 2147483646 := by omega
          clear hx
          go_wp2_with fail
          refine (onum_no _ wr hO').mono ?_
          rintro e w6 ⟨rfl, rfl⟩
          have HO' := Lib.hid hO'
          clear hO'
          go_wp2
          go_roundw
          case rel => first | exact ⟨k + 1, g', by omega, by go_num, by rw [HAny.out, HB.out, Bool.true_or]; exact ⟨bs', hbs', HO'.out⟩, HM.out, HF.out⟩ | ((repeat apply Exists.intro); refine ⟨?r, ?f⟩; (case f => (and_intros <;> rfl)); exact ⟨k + 1, g', by omega, by go_num, by rw [HAny.out, HB.out, Bool.true_or]; exact ⟨bs', hbs', HO'.out⟩, HM.out, HF.out⟩)
          case measure => simp [intOf]; omega
      | false =>
        rw [hb] at hO
        have hO' : OutS wr p g' (bs ++ (enc n ++ encs (l.take k))) .nilIface := hO
        have hlen : (bs ++ (enc n ++ encs (l.take k))).length ≤ 1000000 := by
          have h1 := encs_len _ hb
          have h2 := enc_len5 (n := n) (by omega)
          have h3 : (l.take k).length ≤ k := List.length_take_le _ _
          rw [List.length_append, List.length_append]
          omega
        have HB := Lib.hid hb
        have HO := Lib.hid hO'
        clear hb hO hO'
        by_cases hx : x < -1 ∨ 2147483646 < x
        · have hnb : nbad x = true := by simpa [nbad] using hx
          have HNb := Lib.hid hnb
          clear hnb
          rcases hx with hx | hx
          · have hd : decide (x < -1) = true := by simpa using hx
            clear hx
            go_wp2_with fail
            refine (onum_bad A _ wr HO.out (by omega) hsW).mono ?_
            rintro e w6 ⟨rfl, hO6, hM6⟩
            have HO6 := Lib.hid hO6
            have HM6 := Lib.hid (modTrans HM.out hM6 HF.out)
            clear hO6 hM6 hsW
            go_wp2
            go_roundw
            case rel => first | exact ⟨k + 1, g', by omega, by go_num, by rw [HAny.out, HB.out, HNb.out]; exact ⟨_, hlen, HO6.out⟩, HM6.out, HF.out⟩ | ((repeat apply Exists.intro); refine ⟨?r, ?f⟩; (case f => (and_intros <;> rfl)); exact ⟨k + 1, g', by omega, by go_num, by rw [HAny.out, HB.out, HNb.out]; exact ⟨_, hlen, HO6.out⟩, HM6.out, HF.out⟩)
            case measure => simp [intOf]; omega
          · have hd : decide (x < -1) = false := by simp; omega
            have hd2 : decide (2147483647 ≤ x) = true := by simp; omega
            clear hx
            go_wp2_with fail
            refine (onum_bad A _ wr HO.out (by omega) hsW).mono ?_
            rintro e w6 ⟨rfl, hO6, hM6⟩
            have HO6 := Lib.hid hO6
            have HM6 := Lib.hid (modTrans HM.out hM6 HF.out)
            clear hO6 hM6 hsW
            go_wp2
            go_roundw
            case rel => first | exact ⟨k + 1, g', by omega, by go_num, by rw [HAny.out, HB.out, HNb.out]; exact ⟨_, hlen, HO6.out⟩, HM6.out, HF.out⟩ | ((repeat apply Exists.intro); refine ⟨?r, ?f⟩; (case f => (and_intros <;> rfl)); exact ⟨k + 1, g', by omega, by go_num, by rw [HAny.out, HB.out, HNb.out]; exact ⟨_, hlen, HO6.out⟩, HM6.out, HF.out⟩)
            case measure => simp [intOf]; omega
        · have hd : decide (x < -1) = false := by simp; omega
          have hd2 : decide (2147483647 ≤ x) = false := by simp; omega
          have hnb : nbad x = false := by simpa [nbad] using hx
          have hx1 : -1 ≤ x := by omega
          have hx2 : x ≤ 2147483646 := by omega
          have hN := onum_ok (x + 1).toNat wr HO.out (by omega) (by omega)
          have hcast : (((x + 1).toNat : Nat) : Int) = x + 1 := by omega
          rw [hcast] at hN
          have HNb := Lib.hid hnb
          clear hx hnb hcast
          go_wp2_with fail
          refine hN.mono ?_
          rintro e w6 ⟨rfl, g6, hO6, hM6, hF6⟩
          have HO6 := Lib.hid hO6
          have HM6 := Lib.hid (modTrans HM.out hM6 HF.out)
          have HF6 := Lib.hid (hF6.trans HF.out HM.out.size)
          clear hO6 hM6 hF6 hsW
          go_wp2
          go_roundw
          case rel => first | exact ⟨k + 1, g6, by omega, by go_num, by rw [HAny.out, HB.out, HNb.out, HEnc.out]; exact HO6.out, HM6.out, HF6.out⟩ | ((repeat apply Exists.intro); refine ⟨?r, ?f⟩; (case f => (and_intros <;> rfl)); exact ⟨k + 1, g6, by omega, by go_num, by rw [HAny.out, HB.out, HNb.out, HEnc.out]; exact HO6.out, HM6.out, HF6.out⟩)
          case measure => simp [intOf]; omega
    · have : k = n := by omega
      subst this
      have htk : l.take k = l := List.take_of_length_le (by rw [HL.out]; exact Nat.le_refl _)
      rw [htk] at hO
      have HO := Lib.hid hO
      have HM := Lib.hid hM
      have HF := Lib.hid hF
      clear hO hM hF htk
      go_wp2
      go_end0
      exact ⟨rfl, g', by unfold encRow; rw [HL.out]; exact HO.out, HM.out, HF.out⟩
end Pk
end Go.Proofs.YtjohljpcoodijaaDoor
