/- dofferlaw31.ChainNew. Conditions: the sentinels, and the table of TrailingZeros64, read as laid. -/
import Derived.Test.YtpjimmdpcpcmoaaDoorQChnAlive
namespace Go.Proofs.YtpjimmdpcpcmoaaDoor
open Go Go.RowKit Kt
namespace Ch
open Po
variable {w w' w2 w3 W : World} {k p : Nat} {L L' L2 S S' M l l' : List Nat} {m m' m2 : Md} {c c' : Cn} {acc : Int} {frm many came went : Nat}
/-- A pool made behind w0. -/
structure PF (w0 w : World) (p : Nat) (L : List Nat) (m : Md) : Prop where
  P : PI w p L m
  B : Below w0.heap.size w0 w
  lo : ∀ x ∈ L, w0.heap.size ≤ x
theorem PF.step {w0 : World} (h : PF w0 w p L m) (hP : PI w' p L' m') (hM : Mod L w w') (hF : Fr L' L w.heap.size) : PF w0 w' p L' m' :=
  ⟨hP, h.B.trans (hM.toBelow h.B.size h.lo), fun x hx => by
    rcases hF x hx with h1 | h1
    · exact h.lo x h1
    · exact Nat.le_trans h.B.size h1⟩
theorem PF.below {w0 : World} (h : PF w0 w p L m) (hb : Below w.heap.size w w') : PF w0 w' p L m := ⟨h.P.below hb, h.B.trans (hb.mono h.B.size), h.lo⟩
theorem pool_pf (n s : Nat) (n1 : 1 ≤ n) (n2 : n ≤ 256) (s1 : 1 ≤ s) (s2 : s ≤ 64) (w0 w : World) (hb : Below w0.heap.size w0 w) : Calls Tryd.prog 10 #[.int .i64 (n : Int), .int .i64 (s : Int)] w fun e w' => ∃ p L, e = .returned (.tuple #[.pointer (some ⟨p, 0, none⟩), .nilIface]) ∧ PF w0 w' p L (Po.new n s) :=
  (Po.new_yes n s n1 n2 s1 s2 w).mono fun _ _ ⟨p, L, h1, h2, h3, h4⟩ => ⟨p, L, h1, h2, hb.trans (h4.mono hb.size), fun x hx => Nat.le_trans hb.size (h3 x hx)⟩
theorem open_pf {w0 : World} (x c : Int) (hx : (Lit.int .i64 x).wf = true) (h : PF w0 w p L m) (he : opnE m x c = 0) : Calls Tryd.prog 11 #[.pointer (some ⟨p, 0, none⟩), .int .i64 x, .int .i64 c] w fun e w' => e = .returned .nilIface ∧ ∃ L', PF w0 w' p L' (opn m x c) :=
  (open_yes x c hx w h.P he).mono fun _ _ ⟨L', h1, h2, h3, h4⟩ => ⟨h1, L', h.step h2 h3 h4⟩
end Ch
end Go.Proofs.YtpjimmdpcpcmoaaDoor
