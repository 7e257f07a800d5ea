/- dofferlaw31.ChainNew. Conditions: the sentinels, and the table of TrailingZeros64, read as laid. -/
import Derived.Test.YtpjimmdpcpcmoaaDoorQChnAlive
namespace Go.Proofs.YtpjimmdpcpcmoaaDoor
open Go Go.RowKit Kt
namespace Ch
open Po
variable {w w' w2 w3 W : World} {k p : Nat} {L L' L2 S S' M l l' : List Nat} {m m' m2 : Md} {c c' : Cn} {acc : Int} {frm many came went : Nat}
theorem crd_one (x : Int) : crd (opn (Po.new 3 2) 1 2).acc x = if x = 1 then some 2 else none := by
  by_cases h : x = 1
  · subst h; decide
  · rw [if_neg h]
    have e : (opn (Po.new 3 2) 1 2).acc = [(1, 2)] := by decide
    rw [e, crd_none]
    simpa using h
/-- A pool made behind w0. -/
structure PF (w0 w : World) (p : Nat) (L : List Nat) (m : Md) : Prop where
  P : PI w p L m
  B : Below w0.heap.size w0 w
  lo : ∀ x ∈ L, w0.heap.size ≤ x
theorem PF.step {w0 : World} (h : PF w0 w p L m) (hP : PI w' p L' m') (hM : Mod L w w') (hF : Fr L' L w.heap.size) : PF w0 w' p L' m' :=
  ⟨hP, h.B.trans (hM.toBelow h.B.size h.lo), fun x hx => by
    rcases hF x hx with h1 | h1
    · exact h.lo x h1
    · exact Nat.le_trans h.B.size h1⟩
theorem pool_pf (n s : Nat) (n1 : 1 ≤ n) (n2 : n ≤ 256) (s1 : 1 ≤ s) (s2 : s ≤ 64) (w0 w : World) (hb : Below w0.heap.size w0 w) : Calls Tryd.prog 10 #[.int .i64 (n : Int), .int .i64 (s : Int)] w fun e w' => ∃ p L, e = .returned (.tuple #[.pointer (some ⟨p, 0, none⟩), .nilIface]) ∧ PF w0 w' p L (Po.new n s) :=
  (Po.new_yes n s n1 n2 s1 s2 w).mono fun _ _ ⟨p, L, h1, h2, h3, h4⟩ => ⟨p, L, h1, h2, hb.trans (h4.mono hb.size), fun x hx => Nat.le_trans hb.size (h3 x hx)⟩
theorem open_pf {w0 : World} (x c : Int) (hx : (Lit.int .i64 x).wf = true) (h : PF w0 w p L m) (he : opnE m x c = 0) : Calls Tryd.prog 11 #[.pointer (some ⟨p, 0, none⟩), .int .i64 x, .int .i64 c] w fun e w' => e = .returned .nilIface ∧ ∃ L', PF w0 w' p L' (opn m x c) :=
  (open_yes x c hx w h.P he).mono fun _ _ ⟨L', h1, h2, h3, h4⟩ => ⟨h1, L', h.step h2 h3 h4⟩
theorem take_pf {w0 : World} (x : Int) (hx : (Lit.int .i64 x).wf = true) (hT : Bt.Tab w0) (h : PF w0 w p L m) (he : takE m x = 0) : Calls Tryd.prog 13 #[.pointer (some ⟨p, 0, none⟩), .int .i64 x] w fun e w' => e = .returned (.tuple #[.int .i64 (takI m x : Int), .nilIface]) ∧ ∃ L', PF w0 w' p L' (tak m x) :=
  (take_yes x hx w h.P (hT.below h.B) he).mono fun _ _ ⟨L', h1, h2, h3, h4⟩ => ⟨h1, L', h.step h2 h3 h4⟩
set_option maxRecDepth 100000 in
set_option maxHeartbeats 2000000 in
theorem new_law_xn (E : Nat → Addr) (x : Int) (hx : (Lit.int .i64 x).wf = true) (hne : x ≠ 1) (w : World) (hT : Bt.Tab w) (hs : Sent 169 w E Er.egs) : Calls Tryd.prog 4 #[.int .i64 x, .bool false] w fun e w' => e = .returned (.bool true) ∧ Below w.heap.size w w' := by
  have HS := Lib.hid hs
  have HT := Lib.hid hT
  have HE := Lib.hid hx
  have hnb : (x != 1) = true := by simpa using hne
  have hcr : ∀ m : Md, m.acc = (opn (Po.new 3 2) 1 2).acc → crd m.acc x = none := fun m h => by rw [h, crd_one, if_neg hne]
  have HCr := Lib.hid hcr
  clear hx hne hcr
  have HAl := Lib.hid (alive_c E w hT hs)
  clear hs hT
  go_enter Tryd.func4, Tryd.ntmps4
  go_wp2_with fail
  with_reducible refine HAl.out.mono ?_
  rintro e w0 ⟨rfl, hb0⟩
  have HN := Lib.hid (show Calls Tryd.prog 10 #[.int .i64 3, .int .i64 2] w0 _ from pool_pf 3 2 (by decide) (by decide) (by decide) (by decide) w w0 hb0)
  clear hb0 HAl
  go_wp2_with fail
  with_reducible refine HN.out.mono ?_
  rintro e w1 ⟨p, L, rfl, hP⟩
  have HO := Lib.hid (open_pf 1 2 (by decide) hP (by decide))
  clear hP HN
  go_wp2_with fail
  with_reducible refine HO.out.mono ?_
  rintro e w2 ⟨rfl, L2, hP2⟩
  have hac : (opn (Po.new 3 2) 1 2).acc = (opn (Po.new 3 2) 1 2).acc := rfl
  have hhd : held (opn (Po.new 3 2) 1 2).own 1 = 0 := by decide
  clear HO
  have hnw := new_no (w := w2) E x HE.out (HS.out.keep hP2.B) hP2.P (.inl (HCr.out _ hac))
  rw [if_pos (HCr.out _ hac)] at hnw
  have HNw := Lib.hid hnw
  have HP := Lib.hid hP2
  clear hnw hP2 hac hhd
  go_wp2_with fail
  with_reducible refine HNw.out.mono ?_
  rintro e w4 ⟨rfl, hb4⟩
  have hB4 := HP.out.B.trans (hb4.mono HP.out.B.size)
  have HB4 := Lib.hid hB4
  have HNil := Lib.hid (new_nil E x w4 (HS.out.keep hB4))
  have HNm := Lib.hid (fun W (hb : Below w.heap.size w W) => num_ee E 15 (by decide) (by decide) W (HS.out.keep hb))
  have HN15 := Lib.hid (fun W (hb : Below w.heap.size w W) => num_ee E 15 (by decide) (by decide) W (HS.out.keep hb))
  generalize ee E 15 = ev at *
  clear hb4 hB4 HNw HP
  go_wp2_with fail
  with_reducible refine HNil.out.mono ?_
  rintro e w5 ⟨rfl, hb5⟩
  have HB5 := Lib.hid (HB4.out.trans (hb5.mono HB4.out.size))
  clear hb5 HNil
  go_wp2_with fail
  with_reducible refine (HN15.out _ HB5.out).mono ?_
  rintro e w6 ⟨rfl, hb6⟩
  have HB6 := Lib.hid (HB5.out.trans (hb6.mono HB5.out.size))
  clear hb6
  go_wp2_with fail
  with_reducible refine (HNm.out _ HB6.out).mono ?_
  rintro e w7 ⟨rfl, hb7⟩
  have HB7 := Lib.hid (HB6.out.trans (hb7.mono HB6.out.size))
  clear hb7
  go_wp2
  go_ret
  exact ⟨rfl, HB7.out⟩
set_option maxRecDepth 100000 in
set_option maxHeartbeats 2000000 in
theorem new_law_xh (E : Nat → Addr) (x : Int) (hx : (Lit.int .i64 x).wf = true) (hne : x ≠ 1) (w : World) (hT : Bt.Tab w) (hs : Sent 169 w E Er.egs) : Calls Tryd.prog 4 #[.int .i64 x, .bool true] w fun e w' => e = .returned (.bool true) ∧ Below w.heap.size w w' := by
  have HS := Lib.hid hs
  have HT := Lib.hid hT
  have HE := Lib.hid hx
  have hnb : (x != 1) = true := by simpa using hne
  have hcr : ∀ m : Md, m.acc = (opn (Po.new 3 2) 1 2).acc → crd m.acc x = none := fun m h => by rw [h, crd_one, if_neg hne]
  have HCr := Lib.hid hcr
  clear hx hne hcr
  have HAl := Lib.hid (alive_c E w hT hs)
  clear hs hT
  go_enter Tryd.func4, Tryd.ntmps4
  go_wp2_with fail
  with_reducible refine HAl.out.mono ?_
  rintro e w0 ⟨rfl, hb0⟩
  have HN := Lib.hid (show Calls Tryd.prog 10 #[.int .i64 3, .int .i64 2] w0 _ from pool_pf 3 2 (by decide) (by decide) (by decide) (by decide) w w0 hb0)
  clear hb0 HAl
  go_wp2_with fail
  with_reducible refine HN.out.mono ?_
  rintro e w1 ⟨p, L, rfl, hP⟩
  have HO := Lib.hid (open_pf 1 2 (by decide) hP (by decide))
  clear hP HN
  go_wp2_with fail
  with_reducible refine HO.out.mono ?_
  rintro e w2 ⟨rfl, L2, hP2⟩
  have HTk := Lib.hid (take_pf 1 (by decide) HT.out hP2 (by decide))
  clear hP2 HO
  go_wp2_with fail
  with_reducible refine HTk.out.mono ?_
  rintro e w3 ⟨rfl, L3, hP3⟩
  have hac : (tak (opn (Po.new 3 2) 1 2) 1).acc = (opn (Po.new 3 2) 1 2).acc := by decide
  have hhd : held (tak (opn (Po.new 3 2) 1 2) 1).own 1 ≠ 0 := by decide
  clear HTk
  have hnw := new_no (w := w3) E x HE.out (HS.out.keep hP3.B) hP3.P (.inl (HCr.out _ hac))
  rw [if_pos (HCr.out _ hac)] at hnw
  have HNw := Lib.hid hnw
  have HP := Lib.hid hP3
  clear hnw hP3 hac hhd
  go_wp2_with fail
  with_reducible refine HNw.out.mono ?_
  rintro e w4 ⟨rfl, hb4⟩
  have hB4 := HP.out.B.trans (hb4.mono HP.out.B.size)
  have HB4 := Lib.hid hB4
  have HNil := Lib.hid (new_nil E x w4 (HS.out.keep hB4))
  have HNm := Lib.hid (fun W (hb : Below w.heap.size w W) => num_ee E 15 (by decide) (by decide) W (HS.out.keep hb))
  have HN15 := Lib.hid (fun W (hb : Below w.heap.size w W) => num_ee E 15 (by decide) (by decide) W (HS.out.keep hb))
  generalize ee E 15 = ev at *
  clear hb4 hB4 HNw HP
  go_wp2_with fail
  with_reducible refine HNil.out.mono ?_
  rintro e w5 ⟨rfl, hb5⟩
  have HB5 := Lib.hid (HB4.out.trans (hb5.mono HB4.out.size))
  clear hb5 HNil
  go_wp2_with fail
  with_reducible refine (HN15.out _ HB5.out).mono ?_
  rintro e w6 ⟨rfl, hb6⟩
  have HB6 := Lib.hid (HB5.out.trans (hb6.mono HB5.out.size))
  clear hb6
  go_wp2_with fail
  with_reducible refine (HNm.out _ HB6.out).mono ?_
  rintro e w7 ⟨rfl, hb7⟩
  have HB7 := Lib.hid (HB6.out.trans (hb7.mono HB6.out.size))
  clear hb7
  go_wp2
  go_ret
  exact ⟨rfl, HB7.out⟩
set_option maxRecDepth 100000 in
set_option maxHeartbeats 2000000 in
theorem new_law_on (E : Nat → Addr) (w : World) (hT : Bt.Tab w) (hs : Sent 169 w E Er.egs) : Calls Tryd.prog 4 #[.int .i64 1, .bool false] w fun e w' => e = .returned (.bool true) ∧ Below w.heap.size w w' := by
  have HS := Lib.hid hs
  have HT := Lib.hid hT
  have hcr : ∀ m : Md, m.acc = (opn (Po.new 3 2) 1 2).acc → (crd m.acc 1).isSome = true ∧ crd m.acc 1 ≠ none := fun m h => by rw [h, crd_one, if_pos rfl]; simp
  have HCr := Lib.hid hcr
  clear hcr
  have HAl := Lib.hid (alive_c E w hT hs)
  clear hs hT
  go_enter Tryd.func4, Tryd.ntmps4
  go_wp2_with fail
  with_reducible refine HAl.out.mono ?_
  rintro e w0 ⟨rfl, hb0⟩
  have HN := Lib.hid (show Calls Tryd.prog 10 #[.int .i64 3, .int .i64 2] w0 _ from pool_pf 3 2 (by decide) (by decide) (by decide) (by decide) w w0 hb0)
  clear hb0 HAl
  go_wp2_with fail
  with_reducible refine HN.out.mono ?_
  rintro e w1 ⟨p, L, rfl, hP⟩
  have HO := Lib.hid (open_pf 1 2 (by decide) hP (by decide))
  clear hP HN
  go_wp2_with fail
  with_reducible refine HO.out.mono ?_
  rintro e w2 ⟨rfl, L2, hP2⟩
  have hac : (opn (Po.new 3 2) 1 2).acc = (opn (Po.new 3 2) 1 2).acc := rfl
  have hhd : held (opn (Po.new 3 2) 1 2).own 1 = 0 := by decide
  clear HO
  have hnw := new_yes (w := w2) 1 (by decide) hP2.P (HCr.out _ hac).1 hhd
  have HNw := Lib.hid hnw
  have HP := Lib.hid hP2
  clear hnw hP2 hac hhd
  go_wp2_with fail
  with_reducible refine HNw.out.mono ?_
  rintro e w4 ⟨k, rfl, hk, hb4, hC⟩
  have hB4 := HP.out.B.trans (hb4.mono HP.out.B.size)
  have HB4 := Lib.hid hB4
  have HC := Lib.hid hC.C
  have HNil := Lib.hid (new_nil E 1 w4 (HS.out.keep hB4))
  clear hk hb4 hC hB4 HNw HP
  go_wp2_with fail
  with_reducible refine HNil.out.mono ?_
  rintro e w5 ⟨rfl, hb5⟩
  have hB5 := HB4.out.trans (hb5.mono HB4.out.size)
  have HNum := Lib.hid (num_ee E 15 (by decide) (by decide) w5 (HS.out.keep hB5))
  have HC5 := Lib.hid (HC.out.below hb5)
  have HB5 := Lib.hid hB5
  generalize ee E 15 = ev at *
  clear hb5 hB5 HC HNil
  go_wp2_with fail
  with_reducible refine HNum.out.mono ?_
  rintro e w6 ⟨rfl, hb6⟩
  have hB6 := HB5.out.trans (hb6.mono HB5.out.size)
  have HC6 := Lib.hid (HC5.out.below hb6)
  have HB6 := Lib.hid hB6
  have hl := len_c HC6.out
  have hbu := buffers_c HC6.out
  simp only [List.length_nil] at hl hbu
  have HL := Lib.hid hl
  have HBu := Lib.hid hbu
  clear hb6 hB6 HC5 HNum hl hbu
  go_wp2_with fail
  with_reducible refine HL.out.mono ?_
  rintro e w7 ⟨rfl, rfl⟩
  go_wp2_with fail
  with_reducible refine HBu.out.mono ?_
  rintro e w7 ⟨rfl, rfl⟩
  go_wp2
  go_ret
  exact ⟨rfl, HB6.out⟩
set_option maxRecDepth 100000 in
set_option maxHeartbeats 2000000 in
theorem new_law_oh (E : Nat → Addr) (w : World) (hT : Bt.Tab w) (hs : Sent 169 w E Er.egs) : Calls Tryd.prog 4 #[.int .i64 1, .bool true] w fun e w' => e = .returned (.bool true) ∧ Below w.heap.size w w' := by
  have HS := Lib.hid hs
  have HT := Lib.hid hT
  have hcr : ∀ m : Md, m.acc = (opn (Po.new 3 2) 1 2).acc → (crd m.acc 1).isSome = true ∧ crd m.acc 1 ≠ none := fun m h => by rw [h, crd_one, if_pos rfl]; simp
  have HCr := Lib.hid hcr
  clear hcr
  have HAl := Lib.hid (alive_c E w hT hs)
  clear hs hT
  go_enter Tryd.func4, Tryd.ntmps4
  go_wp2_with fail
  with_reducible refine HAl.out.mono ?_
  rintro e w0 ⟨rfl, hb0⟩
  have HN := Lib.hid (show Calls Tryd.prog 10 #[.int .i64 3, .int .i64 2] w0 _ from pool_pf 3 2 (by decide) (by decide) (by decide) (by decide) w w0 hb0)
  clear hb0 HAl
  go_wp2_with fail
  with_reducible refine HN.out.mono ?_
  rintro e w1 ⟨p, L, rfl, hP⟩
  have HO := Lib.hid (open_pf 1 2 (by decide) hP (by decide))
  clear hP HN
  go_wp2_with fail
  with_reducible refine HO.out.mono ?_
  rintro e w2 ⟨rfl, L2, hP2⟩
  have HTk := Lib.hid (take_pf 1 (by decide) HT.out hP2 (by decide))
  clear hP2 HO
  go_wp2_with fail
  with_reducible refine HTk.out.mono ?_
  rintro e w3 ⟨rfl, L3, hP3⟩
  have hac : (tak (opn (Po.new 3 2) 1 2) 1).acc = (opn (Po.new 3 2) 1 2).acc := by decide
  have hhd : held (tak (opn (Po.new 3 2) 1 2) 1).own 1 ≠ 0 := by decide
  clear HTk
  have hnw := new_no (w := w3) E 1 (by decide) (HS.out.keep hP3.B) hP3.P (.inr hhd)
  rw [if_neg (HCr.out _ hac).2] at hnw
  have HNw := Lib.hid hnw
  have HP := Lib.hid hP3
  clear hnw hP3 hac hhd
  go_wp2_with fail
  with_reducible refine HNw.out.mono ?_
  rintro e w4 ⟨rfl, hb4⟩
  have hB4 := HP.out.B.trans (hb4.mono HP.out.B.size)
  have HB4 := Lib.hid hB4
  have HNil := Lib.hid (new_nil E 1 w4 (HS.out.keep hB4))
  have HNm := Lib.hid (fun W (hb : Below w.heap.size w W) => num_ee E 16 (by decide) (by decide) W (HS.out.keep hb))
  have HN15 := Lib.hid (fun W (hb : Below w.heap.size w W) => num_ee E 15 (by decide) (by decide) W (HS.out.keep hb))
  generalize ee E 16 = ev at *
  generalize ee E 15 = ev5 at *
  clear hb4 hB4 HNw HP
  go_wp2_with fail
  with_reducible refine HNil.out.mono ?_
  rintro e w5 ⟨rfl, hb5⟩
  have HB5 := Lib.hid (HB4.out.trans (hb5.mono HB4.out.size))
  clear hb5 HNil
  go_wp2_with fail
  with_reducible refine (HN15.out _ HB5.out).mono ?_
  rintro e w6 ⟨rfl, hb6⟩
  have HB6 := Lib.hid (HB5.out.trans (hb6.mono HB5.out.size))
  clear hb6
  go_wp2_with fail
  with_reducible refine (HNm.out _ HB6.out).mono ?_
  rintro e w7 ⟨rfl, hb7⟩
  have HB7 := Lib.hid (HB6.out.trans (hb7.mono HB6.out.size))
  clear hb7
  go_wp2
  go_ret
  exact ⟨rfl, HB7.out⟩
theorem new_law (E : Nat → Addr) (x : Int) (b : Bool) (w : World) (hx : (Lit.int .i64 x).wf = true) (hT : Bt.Tab w) (hs : Sent 169 w E Er.egs) : Calls Tryd.prog 4 #[.int .i64 x, .bool b] w fun e w' => e = .returned (.bool true) ∧ Below w.heap.size w w' := by
  by_cases h : x = 1
  · subst h
    cases b
    · exact new_law_on E w hT hs
    · exact new_law_oh E w hT hs
  · cases b
    · exact new_law_xn E x hx h w hT hs
    · exact new_law_xh E x hx h w hT hs
end Ch
end Go.Proofs.YtpjimmdpcpcmoaaDoor
