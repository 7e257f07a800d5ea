/- The walks of package pack: In's Num, Err, Left; Read. Condition where an error is answered: the sentinels read as laid. -/
import Derived.Test.YtjohljpcoodijaaDoorPackIn
import Derived.Test.YtjohljpcoodijaaDoorSl
namespace Go.Proofs.YtjohljpcoodijaaDoor
open Go Go.RowKit Kt
namespace Pk
variable {w w' : World} {p : Nat} {rest : List UInt8} {ev : Value}
/-- What Num answers, what is left, the error's number. -/
def numV (most : Int) (rest : List UInt8) (g : Nat) : Int × List UInt8 × Nat :=
  if g = 0 then (match dec 0 0 rest with
    | .ok (n, s) => if most < n then (0, rest, 1) else (n, rest.drop s, 0)
    | .error e => (0, rest, e)) else (0, rest, g)
theorem dec_err : ∀ (l : List UInt8) (k n e : Nat), dec k n l = .error e → e = 1 ∨ e = 2 ∨ e = 4
  | [], k, n, e, h => by unfold dec at h; split at h <;> (cases h; simp)
  | c :: l, k, n, e, h => by
    unfold dec at h
    split at h
    · cases h; simp
    split at h
    · exact dec_err l _ _ e h
    split at h
    · cases h; simp
    split at h
    · cases h; simp
    · cases h
theorem evn_ne (A : Nat → Addr) {g : Nat} (h : g ≠ 0) : ∃ a, evn A g = .iface 152 (.pointer (some a)) := by
  unfold evn Er.ev
  rw [if_neg h]
  split
  · exact ⟨_, rfl⟩
  split
  · exact ⟨_, rfl⟩
  split
  · exact ⟨_, rfl⟩
  · exact ⟨_, rfl⟩

set_option maxHeartbeats 2000000 in
set_option maxRecDepth 100000 in
theorem num_c (A : Nat → Addr) (most : Int) (g : Nat) (w : World) (h : InS w p rest (evn A g)) (hl : rest.length ≤ 1000000) (hs : Sent 152 w A pks) :
    Calls Tryd.prog 45 #[.pointer (some ⟨p, 0, none⟩), .int .i64 most] w fun e w' => e = .returned (.int .i64 (numV most rest g).1) ∧ InS w' p (numV most rest g).2.1 (evn A (numV most rest g).2.2) ∧ Mod [p] w w' := by
  by_cases hg : g = 0
  · subst hg
    have hev : evn A 0 = .nilIface := rfl
    rw [hev] at h
    have hN := number_c A w h hl hs
    obtain ⟨a, cap, h1, h2, h3, h4, h5, h6⟩ := h.h
    have k1 := cell_block h1 1
    simp at k1
    have HH := Lib.hid h
    have HS := Lib.hid hs
    cases hd : dec 0 0 rest with
    | error e =>
      have he := dec_err _ _ _ _ hd
      have hv : numV most rest 0 = (0, rest, e) := by unfold numV; rw [if_pos rfl, hd]
      obtain ⟨ad, had⟩ := evn_ne A (g := e) (by omega)
      rw [hd] at hN
      simp only [resN, had] at hN
      rw [hv]
      simp only [had]
      clear h h1 h2 h3 h4 h5 h6 hd hv had he hev
      go_enter Tryd.func45, Tryd.ntmps45
      go_wp2_with fail
      refine hN.mono ?_
      rintro e5 w5 ⟨rfl, hb5⟩
      have h5 := HH.out.below hb5
      obtain ⟨a, cap, h1, h2, h3, h4, h5, h6⟩ := h5.h
      have c1 := cell_block h1 1
      have f1 := frozen_block h1 1
      have fin : InS (w5.setCell ⟨p, 1, none⟩ (.iface 152 (.pointer (some ad)))) p rest (.iface 152 (.pointer (some ad))) := by
        have M := (Mod.refl [p] w5).setCell (p := ⟨p, 1, none⟩) (.inl (by simp)) (.iface 152 (.pointer (some ad)))
        exact ⟨a, cap, by rw [block_setCell h1]; rfl, h2.mod M (fun q hq hm => Nat.ne_of_lt (h6 q hq).1 (by simpa using hm)), h3, h4, h5, h6⟩
      have Fin := Lib.hid fin
      have HM := Lib.hid ((Mod.of_below hb5 [p]).setCell (p := ⟨p, 1, none⟩) (.inl (by simp)) (.iface 152 (.pointer (some ad))))
      clear fin h1 h2 h3 h4 h5 h6 hb5
      go_wp2
      go_ret
      exact ⟨rfl, Fin.out, HM.out⟩
    | ok ns =>
      obtain ⟨n, s⟩ := ns
      obtain ⟨n0, hx1, hx2, hs3, htk, hN31, hlen⟩ := dec_ok _ _ _ _ _ hd
      clear hx1 hx2
      have hs1 : 1 ≤ s := by
        rw [hs3]
        by_cases h128 : n0 < 128
        · rw [enc_small h128]; simp
        · rw [enc_big h128]; simp
      have hsl : s ≤ rest.length := by omega
      rw [hd] at hN
      simp only [resN] at hN
      by_cases hmost : most < n
      · have hv : numV most rest 0 = (0, rest, 1) := by unfold numV; rw [if_pos rfl, hd]; simp only; rw [if_pos hmost]
        have e1 : evn A 1 = .iface 152 (.pointer (some (A 1))) := rfl
        rw [hv]
        simp only [e1]
        clear h h1 h2 h3 h4 h5 h6 hd hv hev htk hs3
        go_enter Tryd.func45, Tryd.ntmps45
        go_wp2_with fail
        refine hN.mono ?_
        rintro e5 w5 ⟨rfl, hb5⟩
        have hse := (HS.out.keep hb5).cell 1 (by simp [pks])
        have h5 := HH.out.below hb5
        obtain ⟨a, cap, h1, h2, h3, h4, h5, h6⟩ := h5.h
        have c1 := cell_block h1 1
        have f1 := frozen_block h1 1
        have fin : InS (w5.setCell ⟨p, 1, none⟩ (.iface 152 (.pointer (some (A 1))))) p rest (.iface 152 (.pointer (some (A 1)))) := by
          have M := (Mod.refl [p] w5).setCell (p := ⟨p, 1, none⟩) (.inl (by simp)) (.iface 152 (.pointer (some (A 1))))
          exact ⟨a, cap, by rw [block_setCell h1]; rfl, h2.mod M (fun q hq hm => Nat.ne_of_lt (h6 q hq).1 (by simpa using hm)), h3, h4, h5, h6⟩
        have Fin := Lib.hid fin
        have HM := Lib.hid ((Mod.of_below hb5 [p]).setCell (p := ⟨p, 1, none⟩) (.inl (by simp)) (.iface 152 (.pointer (some (A 1)))))
        clear fin h1 h2 h3 h4 h5 h6 hb5
        go_wp2
        go_ret
        exact ⟨rfl, Fin.out, HM.out⟩
      · have hv : numV most rest 0 = ((n : Int), rest.drop s, 0) := by unfold numV; rw [if_pos rfl, hd]; simp only; rw [if_neg hmost]
        rw [hv]
        simp only [hev]
        obtain ⟨L, hL⟩ : ∃ L, rest.length = L := ⟨_, rfl⟩
        have hLs : s ≤ L := by omega
        clear h h1 h2 h3 h4 h5 h6 hd hv hev htk hs3
        go_enter Tryd.func45, Tryd.ntmps45
        go_wp2_with fail
        refine hN.mono ?_
        rintro e5 w5 ⟨rfl, hb5⟩
        have h5 := HH.out.below hb5
        obtain ⟨a, cap, h1, h2, h3, h4, h5, h6⟩ := h5.h
        rw [hL] at h1 h3
        obtain ⟨b, off, ha, hx⟩ := h2.u8 0 (by omega)
        clear hx
        subst ha
        have c0 := cell_block h1 0
        have c1 := cell_block h1 1
        have f0 := frozen_block h1 0
        simp at c0 c1
        obtain ⟨A7, hA7, hrA, hbA⟩ : ∃ A7 : Addr, (if cap = s then (some ⟨b, off, none⟩ : Option Addr) else some ⟨b, off + s, none⟩) = some A7 ∧ Rd w5 (some A7) (u8s (rest.drop s)) ∧ A7.block = b ∧ A7.spot = none := by
          by_cases h : cap = s
          · exact ⟨⟨b, off, none⟩, by simp [h], by rw [List.drop_of_length_le (by omega)]; exact Rd.nil _ _, rfl, rfl⟩
          · exact ⟨⟨b, off + s, none⟩, by simp [h], by have := h2.drop s; simpa [u8s] using this, rfl, rfl⟩
        have hbp : b < p := (h6 _ rfl).1
        have hdl : (rest.drop s).length = L - s := by rw [List.length_drop, hL]
        have fin : InS (w5.setCell ⟨p, 0, none⟩ (.slice (some A7) (L - s) (cap - s))) p (rest.drop s) .nilIface := by
          have M := (Mod.refl [p] w5).setCell (p := ⟨p, 0, none⟩) (.inl (by simp)) (.slice (some A7) (L - s) (cap - s))
          refine ⟨some A7, cap - s, by rw [block_setCell h1, hdl]; rfl, hrA.mod M (fun q hq hm => ?_), by omega, by omega, fun h => (by cases h), fun q hq => ?_⟩
          · obtain rfl := Option.some.inj hq
            have : A7.block = p := by simpa using hm
            have := hbA.1
            omega
          · obtain rfl := Option.some.inj hq
            exact ⟨by omega, hbA.2⟩
        have Fin := Lib.hid fin
        have HM := Lib.hid ((Mod.of_below hb5 [p]).setCell (p := ⟨p, 0, none⟩) (.inl (by simp)) (.slice (some A7) (L - s) (cap - s)))
        have hcap : cap ≤ 9223372036854775807 := by unfold maxLen at h4; exact h4
        have hsc : s ≤ cap := by omega
        clear fin h1 h2 h3 h4 h5 h6 hb5 hrA hdl hL
        go_wp2
        go_ret
        exact ⟨rfl, Fin.out, HM.out⟩
  · have hv : numV most rest g = (0, rest, g) := by unfold numV; rw [if_neg hg]
    rw [hv]
    obtain ⟨ad, had⟩ := evn_ne A hg
    simp only [had]
    rw [had] at h
    obtain ⟨a, cap, h1, _⟩ := h.h
    have k1 := cell_block h1 1
    simp at k1
    have HH := Lib.hid h
    clear h h1 hv had
    go_enter Tryd.func45, Tryd.ntmps45
    go_wp2
    go_ret
    exact ⟨rfl, HH.out, Mod.refl _ _⟩
set_option maxHeartbeats 400000 in
set_option maxRecDepth 100000 in
theorem err_c (w : World) (h : InS w p rest ev) : Calls Tryd.prog 46 #[.pointer (some ⟨p, 0, none⟩)] w fun e w' => e = .returned ev ∧ w = w' := by
  obtain ⟨a, cap, h1, _⟩ := h.h
  have k1 := cell_block h1 1
  clear h h1
  go_enter Tryd.func46, Tryd.ntmps46
  go_wp2
  go_ret
  exact ⟨rfl, rfl⟩
set_option maxHeartbeats 400000 in
set_option maxRecDepth 100000 in
theorem left_c (w : World) (h : InS w p rest ev) : Calls Tryd.prog 49 #[.pointer (some ⟨p, 0, none⟩)] w fun e w' => e = .returned (.int .i64 rest.length) ∧ w = w' := by
  obtain ⟨a, cap, h1, _⟩ := h.h
  have k0 := cell_block h1 0
  clear h h1
  go_enter Tryd.func49, Tryd.ntmps49
  go_wp2
  go_ret
  exact ⟨rfl, rfl⟩
set_option maxHeartbeats 400000 in
set_option maxRecDepth 100000 in
theorem read_c (a : Option Addr) (cap n : Nat) (l : List UInt8) (w : World) (hn : l.length = n) (hl : n ≤ 1000000) (hno : a = none → cap = 0) (hr : Rd w a (u8s l)) :
    Calls Tryd.prog 44 #[.slice a n cap] w fun e w' => ∃ p, e = .returned (.pointer (some ⟨p, 0, none⟩)) ∧ w.heap.size ≤ p ∧ InS w' p l .nilIface ∧ Below w.heap.size w w' := by
  have hc := Sl.clone_n a cap n l w hn (by omega) hno hr
  go_enter Tryd.func44, Tryd.ntmps44
  go_wp2_with fail
  refine hc.mono ?_
  rintro e w5 ⟨v, rfl, own, hb5⟩
  obtain ⟨a5, c5, rfl, q1, q2, q3, q4⟩ := rd_own own
  have hfin : InS (w5.alloc (.cells #[.slice a5 n c5, .nilIface] 129)) w5.heap.size l .nilIface := by
    refine ⟨a5, c5, by rw [hn]; exact heap_alloc_new w5 _, q3.alloc _, by omega, q2, fun h => ?_, fun q hq => ?_⟩
    · subst h; exact (own_none own).1
    · subst hq
      have := (own.lt q.block rfl).2
      exact ⟨by omega, (q4 q rfl).2.2⟩
  have HF := Lib.hid hfin
  have HB := Lib.hid (hb5.alloc hb5.size (.cells #[.slice a5 n c5, .nilIface] 129))
  have hz := hb5.size
  clear hfin own q1 q2 q3 q4 hb5
  go_wp2
  go_ret
  exact ⟨_, rfl, hz, HF.out, HB.out⟩
end Pk
end Go.Proofs.YtjohljpcoodijaaDoor
