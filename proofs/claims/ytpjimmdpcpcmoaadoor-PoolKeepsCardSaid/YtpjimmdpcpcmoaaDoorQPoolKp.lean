/- The law PoolKeeps' state. -/
import Derived.Test.YtpjimmdpcpcmoaaDoorQPoolAlive
import Derived.Test.YtpjimmdpcpcmoaaDoorQPoolGive2
import Derived.Test.YtpjimmdpcpcmoaaDoorQPoolAcc
import Derived.Test.YtpjimmdpcpcmoaaDoorQPoolSum
import Derived.Test.YtpjimmdpcpcmoaaDoorQMapZ
namespace Go.Proofs.YtpjimmdpcpcmoaaDoor
open Go Go.RowKit Kt
namespace Po
/-- The pool, and the law's own map of the buffers' owners. -/
structure KpS (w W : World) (p z n : Nat) (m : Md) (l : List (Int × Int)) (own : List Int) (L : List Nat) : Prop where
  i : PI W p L m
  lo : ∀ k ∈ L, w.heap.size ≤ k
  mz : MapZ Tryd.prog 3 3 W z l
  zo : z ∉ L
  zl : w.heap.size ≤ z
  ow : Ow l own
  n : m.own.length = n
  B : Below w.heap.size w W
variable {w W W' : World} {p z n : Nat} {m m' : Md} {l l' : List (Int × Int)} {own own' : List Int} {L L' : List Nat}
theorem KpS.below (h : KpS w W p z n m l own L) (hb : Below W.heap.size W W') : KpS w W' p z n m l own L :=
  ⟨h.i.below hb, h.lo, h.mz.below hb, h.zo, h.zl, h.ow, h.n, h.B.trans (hb.mono h.B.size)⟩
theorem KpS.act (h : KpS w W p z n m l own L) (hP : PI W' p L' m') (hM : Mod L W W') (hF : Fr L' L W.heap.size) (hn : m'.own.length = m.own.length) : KpS w W' p z n m' l own L' := by
  have hz := h.mz.lt
  refine ⟨hP, fun k hk => ?_, h.mz.mod hM h.zo, fun hm => ?_, h.zl, h.ow, by rw [hn, h.n], h.B.trans (hM.toBelow h.B.size h.lo)⟩
  · rcases hF k hk with h1 | h1
    · exact h.lo k h1
    · have := h.B.size; omega
  · rcases hF z hm with h1 | h1
    · exact h.zo h1
    · omega
theorem KpS.put (h : KpS w W p z n m l own L) (hM : Mod [z] W W') (hz : MapZ Tryd.prog 3 3 W' z l') (ho : Ow l' own') : KpS w W' p z n m l' own' L :=
  ⟨h.i.mod hM (fun k hk hm => by simp at hm; subst hm; exact h.zo hk), h.lo, hz, h.zo, h.zl, ho, h.n, h.B.trans (hM.toBelow h.B.size (fun k hk => by simp at hk; have := h.zl; omega))⟩
theorem opn_own (m : Md) (x c : Int) : (opn m x c).own = m.own := by unfold opn; split <;> rfl
theorem cls_own (m : Md) (x : Int) : (cls m x).own = m.own := by unfold cls; split <;> rfl
theorem tak_len (m : Md) (x : Int) : (tak m x).own.length = m.own.length := by unfold tak; split <;> simp
theorem giv_len (m : Md) (x b : Int) : (giv m x b).own.length = m.own.length := by unfold giv; split <;> simp
theorem zero_int (w : World) : (zeroValue 3).run Tryd.prog w = .ok (.int .i64 0) w := by kernel_rfl
theorem KpS.look (h : KpS w W p z n m l own L) (x : Int) (hx : (Lit.int .i64 x).wf = true) : (Instr.lookup 30 (.map (some z)) (.int .i64 x) true).run Tryd.prog W = .ok (.tuple #[zv (crd l x), .bool (crd l x).isSome]) W :=
  h.mz.get_ok Tryd.underlying30 Tryd.underlying3 Tryd.underlying3 (zero_int W) x hx
theorem KpS.len (h : KpS w W p z n m l own L) (ty : TypeId) : (Builtin.len_ #[30] ty #[.map (some z)]).run Tryd.prog W = .ok (.int .i64 (used own : Int)) W := by
  rw [h.mz.len Tryd.underlying30 ty, h.ow.len]
theorem low (i : Int) (k : Int) (h0 : 0 < k) (h1 : k ≤ 1000) : ∃ L : Nat, wrap64 ((IntKind.u64.wrap i).tmod k) = (L : Int) ∧ (L : Int) < k := by
  have h2 : 0 ≤ IntKind.u64.wrap i := wrap_u64_nonneg i
  have h3 := Int.emod_nonneg (IntKind.u64.wrap i) (show k ≠ 0 by omega)
  have h4 := Int.emod_lt_of_pos (IntKind.u64.wrap i) h0
  refine ⟨((IntKind.u64.wrap i) % k).toNat, ?_, by omega⟩
  rw [Int.tmod_eq_emod_of_nonneg h2, show wrap64 (IntKind.u64.wrap i % k) = IntKind.u64.wrap i % k by unfold wrap64; omega]
  omega
theorem sum_le (zs : List Int) (f : Int → Nat) (j : Nat) : ((zs.take j).map f).sum ≤ (zs.map f).sum := by
  conv => rhs; rw [← List.take_append_drop j zs, List.map_append, List.sum_append]
  omega
/-- An act's five cells. -/
structure AcT where
  k : Int
  n : Int
  m : Int
  at' : Int
  c : UInt8
instance : Inhabited AcT := ⟨⟨0, 0, 0, 0, 0⟩⟩
def ac5 (a : AcT) : List Value := [.int .i64 a.k, .int .i64 a.n, .int .i64 a.m, .int .i64 a.at', .int .u8 (a.c.toNat : Int)]
end Po
end Go.Proofs.YtpjimmdpcpcmoaaDoor
