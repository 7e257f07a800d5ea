import Derived.Test.YtpjimmdpcpcmoaaDoorQChnNew2
import Derived.Test.YtpjimmdpcpcmoaaDoorQPoolNew
/- dofferlaw31.alive. Conditions: the sentinels, and the table of TrailingZeros64, read as laid. -/
namespace Go.Proofs.YtpjimmdpcpcmoaaDoor
open Go Go.RowKit Kt
namespace Ch
open Po
variable {w w' w2 w3 W : World} {k p : Nat} {L L' L2 S S' M l l' : List Nat} {m m' m2 : Md} {c c' : Cn} {acc : Int} {frm many came went : Nat}
theorem St.base {w0 : World} (h : St w p k L S m acc c W) (hB : Bs w0 w k L S) : Below w0.heap.size w0 W := by
  obtain ⟨L', S', m', l', _, _, h3, _⟩ := h
  exact hB.mod h3
set_option maxRecDepth 100000 in
set_option maxHeartbeats 2000000 in
theorem alive_c (E : Nat → Addr) (w : World) (hT : Bt.Tab w) (hs : Sent 169 w E Er.egs) : Calls Tryd.prog 20 #[] w fun e w' => e = .returned (.bool true) ∧ Below w.heap.size w w' := by
  have HN := Lib.hid (show Calls Tryd.prog 10 #[.int .i64 3, .int .i64 2] w _ from Po.new_yes 3 2 (by decide) (by decide) (by decide) (by decide) w)
  have hop : opnE (Po.new 3 2) 0 1 = 0 := by decide
  have hcr : (crd (opn (Po.new 3 2) 0 1).acc 0).isSome = true := by decide
  have hcq : crd (opn (Po.new 3 2) 0 1).acc 0 = some ((1 : Nat) : Int) := by decide
  have hhd : held (opn (Po.new 3 2) 0 1).own 0 = 0 := by decide
  have hus : used (opn (Po.new 3 2) 0 1).own = ([] : List Nat).length + 0 := by decide
  have hps : psh (one (opn (Po.new 3 2) 0 1).size 0 1 0 (opn (Po.new 3 2) 0 1).own.length) 0 3 = (2, 14) := by decide
  have HS := Lib.hid hs
  have HT := Lib.hid hT
  have HE := Lib.hid (And.intro hop (And.intro hcr (And.intro hcq (And.intro hhd (And.intro hus hps)))))
  clear hs hT hop hcr hcq hhd hus hps
  have kc := bytes_const (P := Tryd.prog) Tryd.underlying54 Tryd.underlying5
  go_enter Tryd.func20, Tryd.ntmps20
  go_wp2_with fail
  with_reducible refine HN.out.mono ?_
  rintro e w1 ⟨p, L, rfl, hP, hL, hb1⟩
  have HP1 := Lib.hid (And.intro hP (And.intro hL hb1))
  clear hP hL hb1 HN
  go_wp2_with fail
  with_reducible refine (open_yes 0 1 (by decide) w1 HP1.out.1 HE.out.1).mono ?_
  rintro e w2 ⟨L2, rfl, hP2, hM2, hF2⟩
  have hb2 : Below w.heap.size w w2 := HP1.out.2.2.trans (hM2.toBelow HP1.out.2.2.size HP1.out.2.1)
  have hL2 : ∀ k ∈ L2, w.heap.size ≤ k := fun k hk => by
    rcases hF2 k hk with h | h
    · exact HP1.out.2.1 k h
    · have := HP1.out.2.2.size; omega
  have HP2 := Lib.hid (And.intro hP2 (And.intro hL2 hb2))
  clear hP2 hM2 hF2 hb2 hL2 HP1
  go_wp2_with fail
  with_reducible refine (new_yes (w := w2) 0 (by decide) HP2.out.1 HE.out.2.1 HE.out.2.2.2.1).mono ?_
  rintro e w3 ⟨k, rfl, hk, hb3, hC⟩
  have hBs : Bs w w3 k L2 [] := ⟨HP2.out.2.2.trans (hb3.mono HP2.out.2.2.size), fun x hx => by
    rcases List.mem_append.1 hx with h | h
    · exact HP2.out.2.1 x h
    · simp only [List.mem_singleton] at h
      subst h
      exact Nat.le_trans HP2.out.2.2.size hk⟩
  have hBd : Below w3.heap.size w3 (w3.alloc (.cells #[.int .u8 97, .int .u8 98, .int .u8 99] 5 (3, 4))) := (Below.refl _ _).alloc (Nat.le_refl _) _
  have hr : Rd (w3.alloc (.cells #[.int .u8 97, .int .u8 98, .int .u8 99] 5 (3, 4))) (some ⟨w3.heap.size, 0, none⟩) (u8s [97, 98, 99]) := Rd.new _ _ _ _ _ rfl
  have hBs4 : Bs w (w3.alloc (.cells #[.int .u8 97, .int .u8 98, .int .u8 99] 5 (3, 4))) k L2 [] := ⟨hBs.B.trans (hBd.mono hBs.B.size), hBs.lo⟩
  have hpu := push_c (b := [97, 98, 99]) (c := ⟨0, 0, [], 0, 0⟩) E (some ⟨w3.heap.size, 0, none⟩) 3 (by decide) HS.out HT.out hBs4 (hC.below hBd) (by decide) HE.out.2.2.1 HE.out.2.2.2.2.1 (fun _ hM => hr.mod hM (fun g hg hm => by
    simp only [Option.some.injEq] at hg
    subst hg
    rcases List.mem_append.1 hm with h | h
    · have := hC.P.lts _ h; simp at this
    · simp only [List.mem_singleton] at h
      have := hC.C.klt
      omega))
  have h5 := HE.out.2.2.2.2.2
  simp only [List.length_nil, List.length_cons, Nat.zero_add, Nat.reduceAdd] at hpu
  rw [h5] at hpu
  have HPu := Lib.hid hpu
  have HB4 := Lib.hid hBs4
  clear hpu hBs4 hr hBd hBs hC hb3 hk HP2 h5
  go_wp2_with fail
  with_reducible refine HPu.out.mono ?_
  rintro e w4 ⟨rfl, hS4⟩
  have hb4 := hS4.base HB4.out
  have HNum := Lib.hid (num_ee E 14 (by decide) (by decide) w4 (HS.out.keep hb4))
  have HB := Lib.hid hb4
  generalize ee E 14 = ev at *
  clear hS4 hb4 HPu HB4
  go_wp2_with fail
  with_reducible refine HNum.out.mono ?_
  rintro e w5 ⟨rfl, hb5⟩
  have HB5 := Lib.hid (HB.out.trans (hb5.mono HB.out.size))
  clear hb5
  go_wp2_with fail
  go_ret
  exact ⟨rfl, HB5.out⟩
end Ch
end Go.Proofs.YtpjimmdpcpcmoaaDoor

/- dofferlaw31.ChainNew. Conditions: the sentinels, and the table of TrailingZeros64, read as laid. -/
namespace Go.Proofs.YtpjimmdpcpcmoaaDoor
open Go Go.RowKit Kt
namespace Ch
open Po
variable {w w' w2 w3 W : World} {k p : Nat} {L L' L2 S S' M l l' : List Nat} {m m' m2 : Md} {c c' : Cn} {acc : Int} {frm many came went : Nat}
/-- A pool made behind w0. -/
structure PF (w0 w : World) (p : Nat) (L : List Nat) (m : Md) : Prop where
  P : PI w p L m
  B : Below w0.heap.size w0 w
  lo : ∀ x ∈ L, w0.heap.size ≤ x
theorem PF.step {w0 : World} (h : PF w0 w p L m) (hP : PI w' p L' m') (hM : Mod L w w') (hF : Fr L' L w.heap.size) : PF w0 w' p L' m' :=
  ⟨hP, h.B.trans (hM.toBelow h.B.size h.lo), fun x hx => by
    rcases hF x hx with h1 | h1
    · exact h.lo x h1
    · exact Nat.le_trans h.B.size h1⟩
theorem PF.below {w0 : World} (h : PF w0 w p L m) (hb : Below w.heap.size w w') : PF w0 w' p L m := ⟨h.P.below hb, h.B.trans (hb.mono h.B.size), h.lo⟩
theorem pool_pf (n s : Nat) (n1 : 1 ≤ n) (n2 : n ≤ 256) (s1 : 1 ≤ s) (s2 : s ≤ 64) (w0 w : World) (hb : Below w0.heap.size w0 w) : Calls Tryd.prog 10 #[.int .i64 (n : Int), .int .i64 (s : Int)] w fun e w' => ∃ p L, e = .returned (.tuple #[.pointer (some ⟨p, 0, none⟩), .nilIface]) ∧ PF w0 w' p L (Po.new n s) :=
  (Po.new_yes n s n1 n2 s1 s2 w).mono fun _ _ ⟨p, L, h1, h2, h3, h4⟩ => ⟨p, L, h1, h2, hb.trans (h4.mono hb.size), fun x hx => Nat.le_trans hb.size (h3 x hx)⟩
theorem open_pf {w0 : World} (x c : Int) (hx : (Lit.int .i64 x).wf = true) (h : PF w0 w p L m) (he : opnE m x c = 0) : Calls Tryd.prog 11 #[.pointer (some ⟨p, 0, none⟩), .int .i64 x, .int .i64 c] w fun e w' => e = .returned .nilIface ∧ ∃ L', PF w0 w' p L' (opn m x c) :=
  (open_yes x c hx w h.P he).mono fun _ _ ⟨L', h1, h2, h3, h4⟩ => ⟨h1, L', h.step h2 h3 h4⟩
end Ch
end Go.Proofs.YtpjimmdpcpcmoaaDoor
