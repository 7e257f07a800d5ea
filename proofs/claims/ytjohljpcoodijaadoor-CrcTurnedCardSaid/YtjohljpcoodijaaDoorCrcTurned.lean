/- dofferlaw03.CrcTurned returns true. Conditions: the table and the sentinels read as laid. -/
import Derived.Test.YtjohljpcoodijaaDoorCrcOp
namespace Go.Proofs.YtjohljpcoodijaaDoor
open Go Go.RowKit Kt
namespace Crc

def xr8 (x y : UInt8) : UInt8 := x ^^^ y
theorem xor_u8 (x y : UInt8) : bits .xor .u8 (x.toNat : Int) (y.toNat : Int) = ((xr8 x y).toNat : Int) := by
  rw [u8_xor_nat _ _ x.toNat_lt y.toNat_lt]; rfl
theorem xr8_ne {x y : UInt8} (h : y ≠ 0) : xr8 x y ≠ x := by
  intro e
  apply h
  unfold xr8 at e
  have := congrArg (fun z => x ^^^ z) e
  simpa [← UInt8.xor_assoc] using this
theorem le4_inj {x y : UInt32} (h : le4 x = le4 y) : x = y := by
  have hx := x.toNat_lt
  have hy := y.toNat_lt
  simp only [le4, List.cons.injEq, and_true] at h
  obtain ⟨h0, h1, h2, h3⟩ := h
  have e0 := congrArg UInt8.toNat h0
  have e1 := congrArg UInt8.toNat h1
  have e2 := congrArg UInt8.toNat h2
  have e3 := congrArg UInt8.toNat h3
  simp only [UInt8.toNat_ofNat'] at e0 e1 e2 e3
  apply UInt32.toNat_inj.1
  omega
/-- One byte of a frame turned: what stands behind is not the sum of what stands ahead. -/
theorem turned (l : List UInt8) (i : Nat) (c : UInt8) (hc : c ≠ 0) (fl : List UInt8) (hfl : fl = l ++ le4 (more 0 l)) (hi : i < fl.length) :
    (fl.set i (xr8 fl[i] c)).drop l.length ≠ le4 (more 0 ((fl.set i (xr8 fl[i] c)).take l.length)) := by
  subst hfl
  intro h
  by_cases hil : i < l.length
  · rw [List.set_append_left _ _ hil, List.drop_left' (by simp), List.take_left' (by simp)] at h
    have h1 := le4_inj h
    have e1 : l = l.take i ++ l[i] :: l.drop (i + 1) := by simp
    have e2 : l.set i (xr8 (l ++ le4 (more 0 l))[i] c) = l.take i ++ (xr8 (l ++ le4 (more 0 l))[i] c) :: l.drop (i + 1) := by rw [List.set_eq_take_append_cons_drop, if_pos hil]
    have hg : (l ++ le4 (more 0 l))[i] = l[i] := List.getElem_append_left hil
    rw [e2, hg] at h1
    rw [hg] at h
    have h2 : more 0 (l.take i ++ l[i] :: l.drop (i + 1)) = more 0 (l.take i ++ (xr8 l[i] c) :: l.drop (i + 1)) := by rw [← e1]; exact h1
    exact xr8_ne hc (more_turned 0 _ _ _ _ h2).symm
  · rw [List.set_append_right _ _ (by omega), List.drop_left' rfl, List.take_left' rfl] at h
    have hg : (l ++ le4 (more 0 l))[i] = (le4 (more 0 l))[i - l.length]'(by rw [List.length_append] at hi; omega) := List.getElem_append_right (by omega)
    have h1 := congrArg (fun z => z[i - l.length]?) h
    have hlt : i - l.length < (le4 (more 0 l)).length := by rw [List.length_append] at hi; omega
    rw [hg] at h1
    simp [hlt] at h1
    exact xr8_ne hc h1

set_option maxHeartbeats 2000000 in
set_option maxRecDepth 100000 in
theorem turned_c (A : Nat → Addr) (a : Option Addr) (cap : Nat) (l : List UInt8) (at0 : Int) (c : UInt8) (w : World) (hl : l.length ≤ 9223372036854775807) (hno : a = none → cap = 0) (hr : Rd w a (u8s l)) (ht : Tb w) (hs : Sent 152 w A Er.egs) :
    Calls Tryd.prog 12 #[.slice a l.length cap, .int .i64 at0, .int .u8 c.toNat] w fun e w' => e = .returned (.bool true) ∧ Below w.heap.size w w' := by
  by_cases h2k : l.length ≤ 2000
  · have hd : decide (2000 < (l.length : Int)) = false := by simp; omega
    by_cases hc : c = 0
    · subst hc
      go_enter Tryd.func12, Tryd.ntmps12
      go_wp2_with (go_at_call 15; refine (alive_c _ ht).mono ?_; rintro e w1 ⟨rfl, hb1⟩)
      go_ret
      exact ⟨rfl, hb1⟩
    · have hcn : ((c.toNat : Int) == 0) = false := by
        have : c.toNat ≠ 0 := fun h => hc (UInt8.toNat_inj.1 h)
        simp; omega
      go_enter Tryd.func12, Tryd.ntmps12
      go_wp2_with (go_at_call 15; refine (alive_c _ ht).mono ?_; rintro e w1 ⟨rfl, hb1⟩)
      refine (framed_c a cap l w1 (by omega) hno (hr.keep hb1) (ht.keep hb1)).mono ?_
      generalize hfl : l ++ le4 (more 0 l) = fl
      have hfn : fl.length = l.length + 4 := by rw [← hfl, List.length_append, le4_length]
      have Hfl := Lib.hid hfl
      have Hfn := Lib.hid hfn
      clear hfl hfn
      rintro e w2 ⟨v, rfl, own2, hb2⟩
      obtain ⟨a2, c2, rfl, k1, k2, k3, k4⟩ := rd_own own2
      have B2 := hb1.trans (hb2.mono hb1.size)
      obtain ⟨g2, rfl⟩ : ∃ g2, a2 = some ⟨g2, 0, none⟩ := by
        cases a2 with
        | none =>
          have := k3.isNil8
          have h4 := Hfn.out
          rw [this] at h4
          simp at h4
        | some p =>
          obtain ⟨_, h1, h2⟩ := k4 p rfl
          obtain ⟨pb, po, ps⟩ := p
          simp only at h1 h2
          subst h1 h2
          exact ⟨pb, rfl⟩
      obtain ⟨ix, hix, hlx⟩ : ∃ ix : Nat, wrap64 ((IntKind.u64.wrap at0).tmod ((l.length : Int) + 4)) = (ix : Int) ∧ ix < l.length + 4 := by
        have h0 := wrap_u64_nonneg at0
        generalize IntKind.u64.wrap at0 = u at *
        have e : u.tmod ((l.length : Int) + 4) = u % ((l.length : Int) + 4) := by rw [Int.tmod_eq_emod_of_nonneg h0]
        have h1 := Int.emod_nonneg u (show ((l.length : Int) + 4) ≠ 0 by omega)
        have h2 := Int.emod_lt_of_pos u (show 0 < ((l.length : Int) + 4) by omega)
        rw [e]
        refine ⟨(u % ((l.length : Int) + 4)).toNat, ?_, by omega⟩
        rw [IntWalk.wrap64_in _ ⟨by omega, by omega⟩]
        omega
      have hfx : ix < fl.length := by rw [Hfn.out]; exact hlx
      have hce := own2.cellAt ix (by omega)
      have hfr := own2.frozenAt ix
      have hst := own2.stored ix (.int .u8 ((xr8 fl[ix] c).toNat : Int))
      have hb3 : Below w1.heap.size w2 (w2.setCell ⟨g2, ix, none⟩ (.int .u8 ((xr8 fl[ix] c).toNat : Int))) := (Below.refl _ _).setCell (show w1.heap.size ≤ (⟨g2, ix, none⟩ : Addr).block from (k4 _ rfl).1) _
      have hset : (u8s fl).set ix (.int .u8 ((xr8 fl[ix] c).toNat : Int)) = u8s (fl.set ix (xr8 fl[ix] c)) := by simp [u8s, List.map_set]
      rw [hset] at hst
      have hge : (u8s fl)[ix]? = some (.int .u8 (fl[ix].toNat : Int)) := by simp [u8s, hfx]
      rw [hge] at hce
      have htu := turned l ix c hc fl Hfl.out.symm hfx
      have hx8 := xor_u8 fl[ix] c
      have Htu := Lib.hid htu
      have Hst := Lib.hid hst.1
      generalize fl[ix] = z at *
      rw [Hfn.out]
      have hne : ((l.length : Int) + 4 == 0) = false := by simp; omega
      have hixl : (ix : Int) < (l.length : Int) + 4 := by omega
      have B3 := B2.trans (hb3.mono hb1.size)
      have hfl' : (fl.set ix (xr8 z c)).length = l.length + 4 := by rw [List.length_set]; exact Hfn.out
      generalize fl.set ix (xr8 z c) = f' at *
      have r3 := Rd.own Hst.out
      have hps : f' = f'.take l.length ++ f'.drop l.length := (List.take_append_drop _ _).symm
      have hp : (f'.take l.length).length = l.length := by simp; omega
      have hsf : (f'.drop l.length).length = 4 := by simp; omega
      rw [hps] at r3
      generalize f'.take l.length = pre at *
      generalize f'.drop l.length = suf at *
      have Hps := Lib.hid hps
      clear hset hge htu hst own2 k3 k4 hfx hps
      go_wp2_with fail
      refine (opened_c A g2 0 l.length (l.length + 4) c2 rfl pre suf hp hsf _ (by omega) (by have := Hfn.out; omega) r3 (ht.keep B3) ((hs.keep B3).sub (by decide))).mono ?_
      rintro e w5 ⟨hb5, _, h52⟩
      have he := h52 Htu.out
      subst he
      have B5 := B3.trans (hb5.mono B3.size)
      go_wp2_with (go_at_call 34; (with_reducible refine (Er.num_at A 13 10 9 (by omega) rfl rfl _ (hs.keep B5)).mono ?_); rintro e w9 ⟨rfl, hb9⟩)
      go_ret
      exact ⟨rfl, B5.trans (hb9.mono B5.size)⟩
  · have hd : decide (2000 < (l.length : Int)) = true := by simp; omega
    go_enter Tryd.func12, Tryd.ntmps12
    go_wp2_with (go_at_call 15; refine (alive_c _ ht).mono ?_; rintro e w1 ⟨rfl, hb1⟩)
    go_ret
    exact ⟨rfl, hb1⟩
end Crc
end Go.Proofs.YtjohljpcoodijaaDoor
