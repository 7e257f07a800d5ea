/- The walks of package pack: a reader of what was written: Num, Byte, Bytes, Text, Row, End. Condition: the sentinels read as laid. -/
import Derived.Test.YtjohljpcoodijaaDoorPackRef
namespace Go.Proofs.YtjohljpcoodijaaDoor
open Go Go.RowKit Kt
namespace Pk
variable {w w' : World} {p : Nat} {rest : List UInt8} {ev : Value}
/-- What is left behind a call that writes only from p on. -/
theorem InS.mod {S : List Nat} (h : InS w p rest ev) (hM : Mod S w w') (hS : ∀ k, k ≤ p → k ∉ S) : InS w' p rest ev := by
  obtain ⟨a, cap, h1, h2, h3, h4, h5, h6⟩ := h.h
  exact ⟨a, cap, by rw [hM.block p (block_lt h1) (hS p (Nat.le_refl _))]; exact h1, h2.mod hM (fun q hq => hS q.block (Nat.le_of_lt (h6 q hq).1)), h3, h4, h5, h6⟩
theorem numV_enc {n : Nat} {most : Int} {r : List UInt8} (h : n ≤ 2147483647) (hm : (n : Int) ≤ most) : numV most (enc n ++ r) 0 = ((n : Int), r, 0) := by
  unfold numV
  rw [if_pos rfl, dec_enc n 0 0 r (by simpa using h) (fun h => absurd h (by omega))]
  simp only [Nat.zero_add, Nat.pow_zero, Nat.mul_one]
  rw [if_neg (by omega), List.drop_left']
  rfl
theorem inum_ok (A : Nat → Addr) (n : Nat) (most : Int) (r : List UInt8) (w : World) (h : InS w p (enc n ++ r) .nilIface) (hn : n ≤ 2147483647) (hm : (n : Int) ≤ most) (hl : r.length ≤ 900000) (hs : Sent 152 w A pks) :
    Calls Tryd.prog 45 #[.pointer (some ⟨p, 0, none⟩), .int .i64 most] w fun e w' => e = .returned (.int .i64 n) ∧ InS w' p r .nilIface ∧ Mod [p] w w' := by
  have h5 := enc_len5 hn
  have := num_c A most 0 w (p := p) (rest := enc n ++ r) h (by rw [List.length_append]; omega) hs
  rw [numV_enc hn hm] at this
  exact this

/-- The rest is cut. -/
theorem InS.cut0 {b off cap : Nat} (h1 : w.heap[p]? = some (.cells #[.slice (some ⟨b, off, none⟩) rest.length cap, ev] 129 (0, 0))) (h2 : Rd w (some ⟨b, off, none⟩) (u8s rest)) (h3 : rest.length ≤ cap) (h4 : cap ≤ maxLen) (hbp : b < p) (s L : Nat) (hL : rest.length = L) (hs : s ≤ L) :
    ∃ A7, (if cap = s then (some ⟨b, off, none⟩ : Option Addr) else some ⟨b, off + s, none⟩) = some A7 ∧ InS (w.setCell ⟨p, 0, none⟩ (.slice (some A7) (L - s) (cap - s))) p (rest.drop s) ev := by
  rw [hL] at h1 h3
  obtain ⟨A7, hA7, hrA, hbA, hsA⟩ : ∃ A7 : Addr, (if cap = s then (some ⟨b, off, none⟩ : Option Addr) else some ⟨b, off + s, none⟩) = some A7 ∧ Rd w (some A7) (u8s (rest.drop s)) ∧ A7.block = b ∧ A7.spot = none := by
    by_cases h : cap = s
    · exact ⟨⟨b, off, none⟩, by simp [h], by rw [List.drop_of_length_le (by omega)]; exact Rd.nil _ _, rfl, rfl⟩
    · exact ⟨⟨b, off + s, none⟩, by simp [h], by have := h2.drop s; simpa [u8s] using this, rfl, rfl⟩
  have hdl : (rest.drop s).length = L - s := by rw [List.length_drop, hL]
  have M := (Mod.refl [p] w).setCell (p := ⟨p, 0, none⟩) (.inl (by simp)) (.slice (some A7) (L - s) (cap - s))
  refine ⟨A7, hA7, ⟨some A7, cap - s, by rw [block_setCell h1, hdl]; rfl, hrA.mod M (fun q hq hm => ?_), by omega, by omega, fun h => (by cases h), fun q hq => ?_⟩⟩
  · obtain rfl := Option.some.inj hq
    have : A7.block = p := by simpa using hm
    omega
  · obtain rfl := Option.some.inj hq
    exact ⟨by omega, hsA⟩
theorem InS.cut (h : InS w p rest ev) (s L : Nat) (hL : rest.length = L) (hs : s ≤ L) (hs0 : 0 < s) : ∃ b off cap A7, w.cell? ⟨p, 0, none⟩ = some (.slice (some ⟨b, off, none⟩) L cap) ∧ w.cell? ⟨p, 1, none⟩ = some ev ∧ w.frozen? ⟨p, 0, none⟩ = false ∧ L ≤ cap ∧ cap ≤ 9223372036854775807 ∧ Rd w (some ⟨b, off, none⟩) (u8s rest) ∧
    (if cap = s then (some ⟨b, off, none⟩ : Option Addr) else some ⟨b, off + s, none⟩) = some A7 ∧ InS (w.setCell ⟨p, 0, none⟩ (.slice (some A7) (L - s) (cap - s))) p (rest.drop s) ev := by
  obtain ⟨a, cap, h1, h2, h3, h4, h5, h6⟩ := h.h
  obtain ⟨b, off, ha, hx⟩ := h2.u8 0 (by omega)
  clear hx
  subst ha
  obtain ⟨A7, hA7, fin⟩ := InS.cut0 h1 h2 h3 h4 (h6 _ rfl).1 s L hL hs
  rw [hL] at h1 h3
  exact ⟨b, off, cap, A7, cell_block h1 0, cell_block h1 1, frozen_block h1 0, h3, by unfold maxLen at h4; exact h4, h2, hA7, fin⟩

set_option maxHeartbeats 1000000 in
set_option maxRecDepth 100000 in
theorem ibyte_ok (c : UInt8) (r : List UInt8) (w : World) (h : InS w p (c :: r) .nilIface) (hl : r.length ≤ 900000) :
    Calls Tryd.prog 92 #[.pointer (some ⟨p, 0, none⟩)] w fun e w' => e = .returned (.int .u8 (c.toNat : Int)) ∧ InS w' p r .nilIface ∧ Mod [p] w w' := by
  obtain ⟨b, off, cap, A7, k0, k1, f0, hLc, hc63, hr, hA7, fin⟩ := h.cut 1 (r.length + 1) rfl (by omega) (by omega)
  obtain ⟨b', o', e, kc⟩ := hr.u8 0 (by simp)
  simp only [Option.some.injEq, Addr.mk.injEq, and_true] at e
  obtain ⟨rfl, rfl⟩ := e
  simp only [List.getElem_cons_zero, Nat.add_zero] at kc
  have HM := Lib.hid ((Mod.refl [p] w).setCell (p := ⟨p, 0, none⟩) (.inl (by simp)) (.slice (some A7) (r.length + 1 - 1) (cap - 1)))
  have Fin := Lib.hid fin
  have hne0 : ((r.length : Int) + 1 == 0) = false := by simp; omega
  have hpos : (0 : Int) < (r.length : Int) + 1 := by omega
  have h1c : 1 ≤ cap := by omega
  have h1i : (1 : Int) ≤ (r.length : Int) + 1 := by omega
  clear h hr fin
  go_enter Tryd.func92, Tryd.ntmps92
  go_wp2
  go_ret
  exact ⟨rfl, Fin.out, HM.out⟩

set_option maxHeartbeats 1000000 in
set_option maxRecDepth 100000 in
theorem ibytes_ok (A : Nat → Addr) (m : Nat) (l r : List UInt8) (most : Int) (w : World) (h : InS w p (enc m ++ (l ++ r)) .nilIface) (hlm : l.length = m) (hm : m ≤ 1000) (hmost : (m : Int) ≤ most) (hl : r.length ≤ 800000) (hs : Sent 152 w A pks) :
    Calls Tryd.prog 93 #[.pointer (some ⟨p, 0, none⟩), .int .i64 most] w fun e w' => ∃ a c, e = .returned (.slice a m c) ∧ Rd w' a (u8s l) ∧ InS w' p r .nilIface ∧ Mod [p] w w' := by
  have hnum := inum_ok A m 2147483647 (l ++ r) w h (by omega) (by omega) (by rw [List.length_append]; omega) hs
  have hp := h.plt
  clear h hs
  obtain ⟨L, hL⟩ : ∃ L, r.length = L := ⟨_, rfl⟩
  have hgt : decide (most < m) = false := by simp; omega
  go_enter Tryd.func93, Tryd.ntmps93
  go_wp2_with fail
  refine hnum.mono ?_
  rintro e w5 ⟨rfl, hI, hM⟩
  obtain ⟨a, cap, h1, h2, h3, h4, h5, h6⟩ := hI.h
  have hlen : (l ++ r).length = m + L := by rw [List.length_append, hlm, hL]
  have k1 := cell_block h1 1
  have k0 := cell_block h1 0
  rw [hlen] at k0 h3
  simp at k0 k1
  have hgt2 : decide ((m : Int) + L < m) = false := by simp; omega
  have hgt3 : decide ((m : Int) < m) = false := by simp
  cases a with
  | none =>
    have hnil := h2.isNil8
    have hr0 : r = [] := (List.append_eq_nil_iff.1 hnil).2
    have hl0 : l = [] := (List.append_eq_nil_iff.1 hnil).1
    subst hr0 hl0
    have hm0 : m = 0 := hlm.symm
    have hL0 : L = 0 := hL.symm
    subst hm0 hL0
    have hc0 := h5 rfl
    subst hc0
    have hcl := Sl.clone_n none 0 0 [] w5 rfl (by omega) (fun _ => rfl) (Rd.nil _ _)
    have HM := Lib.hid hM
    have H1 := Lib.hid h1
    clear h1 h2 h3 h4 h5 h6 hI hM hnil hlen hlm hL
    go_wp2_with fail
    refine hcl.mono ?_
    rintro e w6 ⟨v, rfl, own6, hb6⟩
    have h1' : w6.heap[p]? = _ := (hb6.block p (block_lt H1.out)).trans H1.out
    have c0 := cell_block h1' 0
    have f0 := frozen_block h1' 0
    simp at c0
    obtain ⟨a6, c6, rfl, q1, q2, q3, q4⟩ := rd_own own6
    have M := (Mod.refl [p] w6).setCell (p := ⟨p, 0, none⟩) (.inl (by simp)) (.slice none 0 0)
    have fin : InS (w6.setCell ⟨p, 0, none⟩ (.slice none 0 0)) p [] .nilIface :=
      ⟨none, 0, by rw [block_setCell h1']; rfl, Rd.nil _ _, by simp, by decide, fun _ => rfl, fun q hq => by cases hq⟩
    have Fin := Lib.hid fin
    have HM6 := Lib.hid (HM.out.trans ((Mod.of_below hb6 [p]).setCell (p := ⟨p, 0, none⟩) (.inl (by simp)) (.slice none 0 0)) (fun k hk => .inl hk))
    clear h1' fin M own6 hb6 q1 q2 q3 q4
    go_wp2
    go_ret
    exact ⟨a6, c6, rfl, Rd.nil _ _, Fin.out, HM6.out⟩
  | some ad =>
    obtain ⟨b, off, spot⟩ := ad
    have hsp := (h6 _ rfl).2
    simp only at hsp
    subst hsp
    have hbp := (h6 _ rfl).1
    have hrd : Rd w5 (some ⟨b, off, none⟩) (u8s l) := by
      have := h2.take m
      rw [u8s_append, List.take_left' (by rw [u8s_length, hlm])] at this
      exact this
    have hcl := Sl.clone_n (some ⟨b, off, none⟩) cap m l w5 hlm (by omega) (fun h => by cases h) hrd
    have HM := Lib.hid hM
    have H1 := Lib.hid h1
    have H2 := Lib.hid h2
    have H4 := Lib.hid h4
    have HLen := Lib.hid hlen
    have HLm := Lib.hid hlm
    have hcap : cap ≤ 9223372036854775807 := by unfold maxLen at h4; exact h4
    have hmc : m ≤ cap := by omega
    have hbpn : b < p := hbp
    clear h1 h2 h4 h5 h6 hI hM hlen hlm hL hrd hbp
    go_wp2_with fail
    refine hcl.mono ?_
    rintro e w6 ⟨v, rfl, own6, hb6⟩
    have h1' : w6.heap[p]? = _ := (hb6.block p (block_lt H1.out)).trans H1.out
    obtain ⟨A7, hA7, fin⟩ := InS.cut0 h1' (H2.out.keep hb6) (by rw [HLen.out]; exact h3) H4.out hbpn m (m + L) HLen.out (by omega)
    rw [List.drop_left' HLm.out, show m + L - m = L by omega] at fin
    have c0 := cell_block h1' 0
    have f0 := frozen_block h1' 0
    rw [HLen.out] at c0
    simp at c0
    obtain ⟨a6, c6, rfl, q1, q2, q3, q4⟩ := rd_own own6
    have hr6 : Rd (w6.setCell ⟨p, 0, none⟩ (.slice (some A7) L (cap - m))) a6 (u8s l) := q3.mod ((Mod.refl [p] w6).setCell (p := ⟨p, 0, none⟩) (.inl (by simp)) _) (fun q hq hm => by
      have : q.block = p := by simpa using hm
      subst hq
      have := (own6.lt q.block rfl).1
      have := block_lt H1.out
      omega)
    have Fin := Lib.hid fin
    have HR6 := Lib.hid hr6
    have HM6 := Lib.hid (HM.out.trans ((Mod.of_below hb6 [p]).setCell (p := ⟨p, 0, none⟩) (.inl (by simp)) (.slice (some A7) L (cap - m))) (fun k hk => .inl hk))
    clear h1' fin own6 hb6 q1 q2 q3 q4 hr6
    go_wp2
    go_ret
    exact ⟨a6, c6, rfl, HR6.out, Fin.out, HM6.out⟩

set_option maxHeartbeats 1000000 in
set_option maxRecDepth 100000 in
theorem itext_ok (A : Nat → Addr) (m : Nat) (l r : List UInt8) (most : Int) (w : World) (h : InS w p (enc m ++ (l ++ r)) .nilIface) (hlm : l.length = m) (hm : m ≤ 1000) (hmost : (m : Int) ≤ most) (hl : r.length ≤ 800000) (hs : Sent 152 w A pks) :
    Calls Tryd.prog 94 #[.pointer (some ⟨p, 0, none⟩), .int .i64 most] w fun e w' => e = .returned (.string (Str l)) ∧ InS w' p r .nilIface ∧ Mod [p] w w' := by
  have hB := ibytes_ok A m l r most w h hlm hm hmost hl hs
  have HLm := Lib.hid hlm
  clear h hs hlm
  go_enter Tryd.func94, Tryd.ntmps94
  go_wp2_with fail
  refine hB.mono ?_
  rintro e w5 ⟨a5, c5, rfl, hr, hI, hM⟩
  have hcv := str_run (P := Tryd.prog) (dst := 9) Num.elU8.ht Tryd.underlying5 Tryd.underlying9 hr c5 0
  rw [HLm.out, show w5.drewN 0 = w5 from rfl] at hcv
  have HI := Lib.hid hI
  have HM := Lib.hid hM
  clear hr hI hM
  go_wp2
  go_ret
  exact ⟨rfl, HI.out, HM.out⟩
set_option maxHeartbeats 1000000 in
set_option maxRecDepth 100000 in
theorem iend_ok (w : World) (h : InS w p [] .nilIface) : Calls Tryd.prog 96 #[.pointer (some ⟨p, 0, none⟩)] w fun e w' => e = .returned .nilIface ∧ w = w' := by
  obtain ⟨a, cap, h1, _⟩ := h.h
  have k1 := cell_block h1 1
  have k0 := cell_block h1 0
  simp at k0 k1
  clear h h1
  go_enter Tryd.func96, Tryd.ntmps96
  go_wp2
  go_ret
  exact ⟨rfl, rfl⟩

theorem encs_cons (x : Int) (l : List Int) : encs (x :: l) = enc (x + 1).toNat ++ encs l := rfl
def IrR (w : World) (p : Nat) (l : List Int) (r : List UInt8) (n : Nat) (v i : Value) (W : World) : Prop :=
  ∃ k : Nat, k ≤ n ∧ i = .int .i64 k ∧ (∃ a c, v = .slice a k c) ∧ W.ownsRow w.heap.size 3 1 v k (i64s (l.take k)) ∧ InS W p (encs (l.drop k) ++ r) .nilIface ∧ Mod [p] w W
theorem elI : El Tryd.prog 32 3 (.int .i64 0) 1 8 := ⟨Tryd.underlying32, info_parts (by kernel_rfl), rfl, by decide⟩
set_option maxHeartbeats 2000000 in
set_option maxRecDepth 100000 in
theorem irow_ok (A : Nat → Addr) (n : Nat) (l : List Int) (r : List UInt8) (w : World) (h : InS w p (encRow l ++ r) .nilIface) (hln : l.length = n) (hn : n ≤ 1000) (hok : l.any nbad = false) (hl : r.length ≤ 800000) (w0 : World) (hs : Sent 152 w0 A pks) (hB0 : Below w0.heap.size w0 w) (hp0 : w0.heap.size ≤ p) :
    Calls Tryd.prog 95 #[.pointer (some ⟨p, 0, none⟩), .int .i64 n, .int .i64 (-1), .int .i64 2147483647] w fun e w' => ∃ a c, e = .returned (.slice a n c) ∧ Rd w' a (i64s l) ∧ InS w' p r .nilIface ∧ Mod [p] w w' := by
  have hx := encs_len l hok
  unfold encRow at h
  rw [hln, List.append_assoc] at h
  have hnum := inum_ok A n 2147483647 (encs l ++ r) w h (by omega) (by omega) (by rw [List.length_append]; omega) (hs.keep hB0)
  have hplt := h.plt
  have HLn := Lib.hid hln
  have HOk := Lib.hid hok
  have HX := Lib.hid hx
  clear h hln hok hx
  go_enter Tryd.func95, Tryd.ntmps95
  go_wp2_with fail
  refine hnum.mono ?_
  rintro e w5 ⟨rfl, hI, hM⟩
  obtain ⟨_, _, h1, _⟩ := hI.h
  have k1 := cell_block h1 1
  simp at k1
  have hnn : ((n : Int) != (n : Int)) = false := by simp
  have HI := Lib.hid hI
  have HM := Lib.hid hM
  clear hI hM h1
  go_wp2_with fail
  go_loopw [10, 11, 12] (fun v i _ W => IrR w p l r n v i W) (fun _ i _ _ => n - (intOf i).toNat)
  case atStart => exact ⟨0, Nat.zero_le _, rfl, ⟨_, _, rfl⟩, World.ownsRow_nil _ _ _ _, HI.out, HM.out⟩
  case round =>
    clear HI HM k1
    obtain ⟨k, hk, rfl, ⟨av, cv, rfl⟩, own, hI, hM⟩ := hrel
    obtain ⟨_, _, h1, _⟩ := hI.h
    have k1 := cell_block h1 1
    simp at k1
    by_cases hlt : k < n
    · have hkl : k < l.length := by rw [HLn.out]; exact hlt
      have hcons : l.drop k = l[k] :: l.drop (k + 1) := List.drop_eq_getElem_cons hkl
      have htk : l.take (k + 1) = l.take k ++ [l[k]] := by simp
      have hx : nbad l[k] = false := by
        have := HOk.out
        rw [List.any_eq_false] at this
        simpa using this l[k] (List.getElem_mem hkl)
      have hokd : (l.drop (k + 1)).any nbad = false := by
        have := HOk.out
        rw [List.any_eq_false] at this ⊢
        exact fun y hy => this y (List.mem_of_mem_drop hy)
      have hdl := encs_len _ hokd
      rw [List.length_drop, HLn.out] at hdl
      rw [hcons, encs_cons, List.append_assoc] at hI
      generalize l[k] = x at *
      have hx2 : ¬ (x < -1 ∨ 2147483646 < x) := by simpa [nbad] using hx
      have hx3 : -1 ≤ x := by omega
      have hx4 : x ≤ 2147483646 := by omega
      have hsW := hs.keep (hB0.trans (hM.toBelow hB0.size (by simpa using hp0)))
      have hcall := inum_ok A (x + 1).toNat 2147483647 (encs (l.drop (k + 1)) ++ r) wr hI (by omega) (by omega) (by rw [List.length_append]; omega) hsW
      have hcast : (((x + 1).toNat : Nat) : Int) = x + 1 := by omega
      rw [hcast] at hcall
      have hlp : ∀ j, (Value.slice av k cv).ownBlock = some j → j ≠ p := by
        rintro j hj rfl
        have := (own.lt _ hj).1
        omega
      have HLp := Lib.hid hlp
      have O := Lib.hid own
      have HM := Lib.hid hM
      have HTk := Lib.hid htk
      have hb1 : decide (x < -1) = false := by simp; omega
      have hb2 : decide (2147483647 < x) = false := by simp; omega
      have hsub : x + 1 - 1 = x := by omega
      clear hcons htk hx hokd hdl hI hx2 hsW hcast hlp own hM h1
      go_wp2_with fail
      refine hcall.mono ?_
      rintro e w6 ⟨rfl, hI6, hM6⟩
      obtain ⟨_, _, h1, _⟩ := hI6.h
      have k1 := cell_block h1 1
      simp at k1
      have own6 := own_mod O.out hM6 (fun j hj hm => HLp.out j hj (by simpa using hm))
      have b7 := (Below.refl w6.heap.size w6).alloc (Nat.le_refl _) (.cells #[.int .i64 x] 3)
      have hws := HM.out.size
      have hws6 := hM6.size
      obtain ⟨a8, c8, w8, hrun, own8, gr8, hlie⟩ := elI.any w.heap.size (ty := 32) (own_keep own6 b7) 1 1 (news := [.int .i64 x]) rfl (Rd.new w6 #[.int .i64 x] 3 (0, 0) [.int .i64 x] rfl) (fun h => by cases h) (by intro u hu; simp at hu; subst hu; rfl) (by unfold maxLen; omega) (by omega) (by have := b7.size; omega)
      have hM8 : Mod [p] w w8 := ((HM.out.trans hM6 (fun j hj => .inl hj)).below b7).grown gr8 (fun j hj => .inr ((own6.lt j hj).1))
      have hI8 : InS w8 p (encs (l.drop (k + 1)) ++ r) .nilIface :=
        (hI6.below b7).mod (Mod.of_grown gr8) (fun j hj hm => by
          have hm2 : (Value.slice av k cv).ownBlock = some j := by simpa using hm
          have := (own6.lt j hm2).1
          omega)
      have O8 := Lib.hid own8
      have HI8 := Lib.hid hI8
      have HM8 := Lib.hid hM8
      clear hI6 hM6 h1 own6 b7 own8 gr8 hlie hI8 hM8
      go_wp2_with (at_builtin; (with_reducible apply wpList_append_run hrun); rfl; rfl; rfl; rfl; rfl)
      go_roundw
      case rel => first | exact ⟨k + 1, by omega, by go_num, ⟨_, _, rfl⟩, by rw [HTk.out, i64s_append]; exact O8.out, HI8.out, HM8.out⟩ | ((repeat apply Exists.intro); refine ⟨?r, ?f⟩; (case f => (and_intros <;> rfl)); exact ⟨k + 1, by omega, by go_num, ⟨_, _, rfl⟩, by rw [HTk.out, i64s_append]; exact O8.out, HI8.out, HM8.out⟩)
      case measure => simp [intOf]; omega
    · have hkn : k = n := by omega
      subst hkn
      rw [List.take_of_length_le (by rw [HLn.out]; exact Nat.le_refl _)] at own
      rw [List.drop_of_length_le (by rw [HLn.out]; exact Nat.le_refl _)] at hI
      have hr := Rd.own own
      have HR := Lib.hid hr
      have HI := Lib.hid hI
      have HM := Lib.hid hM
      clear hr hI hM own h1
      go_wp2
      go_ret
      exact ⟨av, cv, rfl, HR.out, HI.out, HM.out⟩
end Pk
end Go.Proofs.YtjohljpcoodijaaDoor
