/- Trees in memory: where their rows lie; what keeps them. No program. -/
import Derived.Test.YteekonojmpihlaaDoorQTreeEr
namespace Go.Proofs.YteekonojmpihlaaDoor
open Go Go.RowKit Kt St Sp Bk
namespace Tr
mutual
/-- Each of its rows lies in a block of P. -/
def Bl (P : Nat → Prop) : Nd → Prop
  | .mk _ _ _ _ _ a _ ks => (∀ p, a = some p → ks ≠ [] → P p.block) ∧ Bls P ks
def Bls (P : Nat → Prop) : List Nd → Prop
  | [] => True
  | n :: r => Bl P n ∧ Bls P r
end
theorem IsAll.of {B : Nat} {W : World} : ∀ {ks : List Nd}, (∀ n ∈ ks, Is B W n) → IsAll B W ks
  | [], _ => trivial
  | _ :: _, h => ⟨h _ (by simp), IsAll.of fun n hn => h n (by simp [hn])⟩
mutual
theorem Bl.mono {P Q : Nat → Prop} (hi : ∀ b, P b → Q b) : ∀ {n : Nd}, Bl P n → Bl Q n
  | .mk _ _ _ _ _ _ _ _, h => ⟨fun p hp hn => hi _ (h.1 p hp hn), Bls.mono hi h.2⟩
theorem Bls.mono {P Q : Nat → Prop} (hi : ∀ b, P b → Q b) : ∀ {ks : List Nd}, Bls P ks → Bls Q ks
  | [], _ => trivial
  | _ :: _, h => ⟨Bl.mono hi h.1, Bls.mono hi h.2⟩
end
theorem cells_ne (n : Nd) : cells n ≠ [] := by simp [cells]
theorem flat_ne {ks : List Nd} (h : ks ≠ []) : ks.flatMap cells ≠ [] := by
  cases ks with
  | nil => exact absurd rfl h
  | cons n r => rw [List.flatMap_cons]; simp [cells_ne]
mutual
theorem Is.bl {B : Nat} {W : World} : ∀ {n : Nd}, Is B W n → Bl (· < B) n
  | .mk _ _ _ _ _ _ _ _, ⟨_, _, _, _, _, h6, h7⟩ => ⟨fun p hp hn => h6 p hp (flat_ne hn), IsAll.bl h7⟩
theorem IsAll.bl {B : Nat} {W : World} : ∀ {ks : List Nd}, IsAll B W ks → Bls (· < B) ks
  | [], _ => trivial
  | _ :: _, h => ⟨Is.bl h.1, IsAll.bl h.2⟩
end
mutual
theorem Is.mono {B B' : Nat} {W : World} (hB : B ≤ B') : ∀ {n : Nd}, Is B W n → Is B' W n
  | .mk _ _ _ _ _ _ _ _, ⟨h1, h2, h3, h4, h5, h6, h7⟩ => ⟨h1, h2, h3, h4, h5, fun p hp hn => Nat.lt_of_lt_of_le (h6 p hp hn) hB, IsAll.mono hB h7⟩
theorem IsAll.mono {B B' : Nat} {W : World} (hB : B ≤ B') : ∀ {ks : List Nd}, IsAll B W ks → IsAll B' W ks
  | [], _ => trivial
  | _ :: _, h => ⟨Is.mono hB h.1, IsAll.mono hB h.2⟩
end
mutual
theorem Is.modB {B : Nat} {S : List Nat} {W W' : World} (hM : Mod S W W') : ∀ {n : Nd}, Is B W n → Bl (· ∉ S) n → Is B W' n
  | .mk _ _ _ _ _ a _ ks, ⟨h1, h2, h3, h4, h5, h6, h7⟩, hb => ⟨h1, h2, h3, h4, by
      by_cases hk : ks = []
      · subst hk; exact Rd.nil _ _
      · exact Rd.mod h5 hM (fun p hp => hb.1 p hp hk), h6, IsAll.modB hM h7 hb.2⟩
theorem IsAll.modB {B : Nat} {S : List Nat} {W W' : World} (hM : Mod S W W') : ∀ {ks : List Nd}, IsAll B W ks → Bls (· ∉ S) ks → IsAll B W' ks
  | [], _, _ => trivial
  | _ :: _, h, hb => ⟨Is.modB hM h.1 hb.1, IsAll.modB hM h.2 hb.2⟩
end
theorem cells_one (n : Nd) : ∀ u ∈ cells n, u.oneCell' = true := by
  intro u hu
  simp only [cells, w64, List.mem_cons, List.mem_append, List.mem_map, List.not_mem_nil, or_false] at hu
  rcases hu with rfl | ⟨x, _, rfl⟩ | rfl | rfl | rfl | rfl <;> rfl
/-- A kid's cells. -/
theorem kid_at {W : World} {a : Option Addr} {ks : List Nd} (hr : Rd W a (ks.flatMap cells)) (hs : ∀ n ∈ ks, n.set.length = 4) (j : Nat) (hj : j < ks.length) :
    ∃ b off, a = some ⟨b, off, none⟩ ∧ ∀ i x, (cells ks[j])[i]? = some x → i < 9 → W.cell? ⟨b, off + (j * 9 + i), none⟩ = some x :=
  Rd.struct 9 hr (fun z hz => cells_len z (hs z hz)) j hj (by decide)
end Tr
end Go.Proofs.YteekonojmpihlaaDoor
