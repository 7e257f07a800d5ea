/- Trees in memory: where their rows lie; what keeps them. No program. -/
import Derived.Test.YteekonojmpihlaaDoorQTreeTxP
namespace Go.Proofs.YteekonojmpihlaaDoor
open Go Go.RowKit Kt St Sp Bk
namespace Tr
mutual
theorem Is.mono {B B' : Nat} {W : World} (hB : B ≤ B') : ∀ {n : Nd}, Is B W n → Is B' W n
  | .mk _ _ _ _ _ _ _ _, ⟨h1, h2, h3, h4, h5, h6, h7⟩ => ⟨h1, h2, h3, h4, h5, fun p hp hn => Nat.lt_of_lt_of_le (h6 p hp hn) hB, IsAll.mono hB h7⟩
theorem IsAll.mono {B B' : Nat} {W : World} (hB : B ≤ B') : ∀ {ks : List Nd}, IsAll B W ks → IsAll B' W ks
  | [], _ => trivial
  | _ :: _, h => ⟨Is.mono hB h.1, IsAll.mono hB h.2⟩
end
/-- A kid's cells. -/
theorem kid_at {W : World} {a : Option Addr} {ks : List Nd} (hr : Rd W a (ks.flatMap cells)) (hs : ∀ n ∈ ks, n.set.length = 4) (j : Nat) (hj : j < ks.length) :
    ∃ b off, a = some ⟨b, off, none⟩ ∧ ∀ i x, (cells ks[j])[i]? = some x → i < 9 → W.cell? ⟨b, off + (j * 9 + i), none⟩ = some x :=
  Rd.struct 9 hr (fun z hz => cells_len z (hs z hz)) j hj (by decide)
end Tr
end Go.Proofs.YteekonojmpihlaaDoor
