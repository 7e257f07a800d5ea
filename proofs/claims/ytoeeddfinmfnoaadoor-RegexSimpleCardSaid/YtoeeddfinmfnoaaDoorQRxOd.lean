import Derived.Test.YtoeeddfinmfnoaaDoorQTreeGrow
import Derived.Test.YtoeeddfinmfnoaaDoorQTreeRight
import Derived.Test.YtoeeddfinmfnoaaDoorQTreeRw
import Derived.Laws.OwnMore
import Derived.Deep.RegionHeld3
/- slices.Clone over nodes, tree.copied, tree.Copy. -/
namespace Go.Proofs.YtoeeddfinmfnoaaDoor
namespace Kt
end Kt
namespace St
end St
namespace Sp
end Sp
namespace Bk
end Bk
open Go Go.RowKit Kt St Sp Bk
namespace Tr
theorem elTn : El Tryd.prog 25 27 (.agg #[.int .i64 0, .int .u64 0, .int .u64 0, .int .u64 0, .int .u64 0, .slice none 0 0, .int .i64 0, .int .i64 0, .string ⟨#[]⟩]) 9 96 := ⟨Tryd.underlying25, info_parts (by kernel_rfl), rfl, by decide⟩
set_option maxHeartbeats 1000000 in
set_option maxRecDepth 100000 in
/-- slices.Clone over nodes. -/
theorem clone_n (a : Option Addr) (ks : List Nd) (n c : Nat) (w : World) (hn : ks.length = n) (h6 : n ≤ 1000000) (hno : a = none → c = 0 ∧ n = 0) (hs : ∀ k ∈ ks, k.set.length = 4) (hr : Rd w a (ks.flatMap cells)) :
    Calls Tryd.prog 103 #[.slice a n c] w fun e w' => ∃ a' c', e = .returned (.slice a' n c') ∧ w'.ownsRow w.heap.size 27 9 (.slice a' n c') n (ks.flatMap cells) ∧ Below w.heap.size w w' := by
  have hnl := fun w a n c n2 c2 => Lib.run_eql_slice_nil (P := Tryd.prog) w 25 27 a n c n2 c2 Tryd.underlying25
  cases a with
  | none =>
    obtain ⟨rfl, rfl⟩ := hno rfl
    have hk : ks = [] := List.eq_nil_of_length_eq_zero hn
    subst hk
    go_enter Tryd.func103, Tryd.ntmps103
    go_wp2
    go_ret
    exact ⟨none, 0, rfl, World.ownsRow_nil _ _ _ _, Below.refl _ _⟩
  | some p =>
    have own0 := World.ownsRow_made (base := w.heap.size) (e := 27) (size := 9) w #[] 0 (Nat.le_refl _) (by decide) rfl
    have hb := (Below.refl w.heap.size w).alloc (Nat.le_refl _) (.cells #[] 27)
    obtain ⟨a', c', w2, hrun, own2, gr2, _⟩ := (show El Tryd.prog _ _ _ 9 96 from elTn).any w.heap.size (ty := 25) own0 n c (by rw [flat_len ks hs, hn]) (hr.keep hb) (fun h => by cases h) (flat_one ks) (by unfold maxLen; omega) (by omega) hb.size
    have hb2 := hb.trans (below_grown own0 gr2 (Nat.le_refl _) hb.size)
    simp only [Nat.zero_add, List.nil_append] at own2 hrun
    have O := Lib.hid own2
    have B := Lib.hid hb2
    clear own0 own2 hb hb2 gr2 hr hn hs hno
    go_enter Tryd.func103, Tryd.ntmps103
    go_wp2_with (at_builtin; (with_reducible apply wpList_append_run hrun); rfl; rfl; rfl; rfl; rfl)
    go_ret
    exact ⟨a', c', rfl, O.out, B.out⟩
/-- Nine cells of a row, stored one by one. -/
def put9o (W : World) (g o : Nat) (v0 v1 v2 v3 v4 v5 v6 v7 v8 : Value) : World :=
  ((((((((W.setCell ⟨g, o, none⟩ v0).setCell ⟨g, o + 1, none⟩ v1).setCell ⟨g, o + 2, none⟩ v2).setCell ⟨g, o + 3, none⟩ v3).setCell ⟨g, o + 4, none⟩ v4).setCell ⟨g, o + 5, none⟩ v5).setCell ⟨g, o + 6, none⟩ v6).setCell ⟨g, o + 7, none⟩ v7).setCell ⟨g, o + 8, none⟩ v8
theorem put9o_mod (W : World) (g o : Nat) (v0 v1 v2 v3 v4 v5 v6 v7 v8 : Value) : Mod [g] W (put9o W g o v0 v1 v2 v3 v4 v5 v6 v7 v8) := by
  have m0 := (Mod.refl [g] W).setCell (p := ⟨g, o, none⟩) (.inl (by simp)) v0
  have m1 := m0.setCell (p := ⟨g, o + 1, none⟩) (.inl (by simp)) v1
  have m2 := m1.setCell (p := ⟨g, o + 2, none⟩) (.inl (by simp)) v2
  have m3 := m2.setCell (p := ⟨g, o + 3, none⟩) (.inl (by simp)) v3
  have m4 := m3.setCell (p := ⟨g, o + 4, none⟩) (.inl (by simp)) v4
  have m5 := m4.setCell (p := ⟨g, o + 5, none⟩) (.inl (by simp)) v5
  have m6 := m5.setCell (p := ⟨g, o + 6, none⟩) (.inl (by simp)) v6
  have m7 := m6.setCell (p := ⟨g, o + 7, none⟩) (.inl (by simp)) v7
  have m8 := m7.setCell (p := ⟨g, o + 8, none⟩) (.inl (by simp)) v8
  unfold put9o
  exact m8
theorem set_app (p q : List Value) (o i : Nat) (h : p.length = o) (v : Value) : (p ++ q).set (o + i) v = p ++ q.set i v := by
  subst h
  rw [List.set_append_right _ _ (by omega), Nat.add_sub_cancel_left]
theorem set_app0 (p q : List Value) (o : Nat) (h : p.length = o) (v : Value) : (p ++ q).set o v = p ++ q.set 0 v := set_app p q o 0 h v
theorem nine_of {q : List Value} (h : q.length = 9) : ∃ a0 a1 a2 a3 a4 a5 a6 a7 a8, q = [a0, a1, a2, a3, a4, a5, a6, a7, a8] := by
  match q, h with
  | [a0, a1, a2, a3, a4, a5, a6, a7, a8], _ => exact ⟨a0, a1, a2, a3, a4, a5, a6, a7, a8, rfl⟩
theorem row_put {W : World} {base T g n c o : Nat} {p q r : List Value} (h : W.ownsRow base T 9 (.slice (some ⟨g, 0, none⟩) n c) n (p ++ q ++ r)) (hp : p.length = o) (hq : q.length = 9) (v0 v1 v2 v3 v4 v5 v6 v7 v8 : Value) :
    (put9o W g o v0 v1 v2 v3 v4 v5 v6 v7 v8).ownsRow base T 9 (.slice (some ⟨g, 0, none⟩) n c) n (p ++ [v0, v1, v2, v3, v4, v5, v6, v7, v8] ++ r) ∧ Mod [g] W (put9o W g o v0 v1 v2 v3 v4 v5 v6 v7 v8) := by
  obtain ⟨a0, a1, a2, a3, a4, a5, a6, a7, a8, rfl⟩ := nine_of hq
  have h0 := (h.stored o v0).1
  have h1 := (h0.stored (o + 1) v1).1
  have h2 := (h1.stored (o + 2) v2).1
  have h3 := (h2.stored (o + 3) v3).1
  have h4 := (h3.stored (o + 4) v4).1
  have h5 := (h4.stored (o + 5) v5).1
  have h6 := (h5.stored (o + 6) v6).1
  have h7 := (h6.stored (o + 7) v7).1
  have h8 := (h7.stored (o + 8) v8).1
  have e0 : ∀ i, (⟨g, i, none⟩ : Addr).block ∈ [g] ∨ W.heap.size ≤ (⟨g, i, none⟩ : Addr).block := fun i => .inl (by simp)
  refine ⟨?_, ?_⟩
  · unfold put9o
    simp only [List.append_assoc, set_app0 p _ o hp, set_app p _ o _ hp, List.cons_append, List.nil_append, List.set_cons_zero, List.set_cons_succ] at h8 ⊢
    exact h8
  · have m0 := (Mod.refl [g] W).setCell (p := ⟨g, o, none⟩) (.inl (by simp)) v0
    have m1 := m0.setCell (p := ⟨g, o + 1, none⟩) (.inl (by simp)) v1
    have m2 := m1.setCell (p := ⟨g, o + 2, none⟩) (.inl (by simp)) v2
    have m3 := m2.setCell (p := ⟨g, o + 3, none⟩) (.inl (by simp)) v3
    have m4 := m3.setCell (p := ⟨g, o + 4, none⟩) (.inl (by simp)) v4
    have m5 := m4.setCell (p := ⟨g, o + 5, none⟩) (.inl (by simp)) v5
    have m6 := m5.setCell (p := ⟨g, o + 6, none⟩) (.inl (by simp)) v6
    have m7 := m6.setCell (p := ⟨g, o + 7, none⟩) (.inl (by simp)) v7
    have m8 := m7.setCell (p := ⟨g, o + 8, none⟩) (.inl (by simp)) v8
    unfold put9o
    exact m8
theorem map_take' {α β : Type} (f : α → β) (ks : List α) (j : Nat) (h : j < ks.length) : (ks.take (j + 1)).map f = (ks.take j).map f ++ [f ks[j]] := by
  rw [List.take_succ_eq_append_getElem h, List.map_append]
  rfl
theorem own_some' {w : World} {base e sz n c : Nat} {a : Option Addr} {xs : List Value} (h : w.ownsRow base e sz (.slice a n c) n xs) (h0 : 0 < n) : ∃ g, a = some ⟨g, 0, none⟩ ∧ base ≤ g ∧ g < w.heap.size := by
  rcases h.2 with ⟨h1, h2⟩ | ⟨g, cap, cur, h1, h2, h3, _⟩
  · omega
  · simp only [Value.slice.injEq] at h1
    exact ⟨g, h1.1, h2, block_lt h3⟩
theorem nv_explicit {m : Nd} {v0 v1 v2 v3 : Nat} (hvs : m.set = [v0, v1, v2, v3]) : ∃ (k' mn' mx' : Int) (a' : Option Addr) (nl' c' : Nat) (t' : List UInt8), nv m = .agg #[.int .i64 k', .int .u64 (v0 : Int), .int .u64 (v1 : Int), .int .u64 (v2 : Int), .int .u64 (v3 : Int), .slice a' nl' c', .int .i64 mn', .int .i64 mx', .string (Str t')] ∧ cells m = [.int .i64 k', .int .u64 (v0 : Int), .int .u64 (v1 : Int), .int .u64 (v2 : Int), .int .u64 (v3 : Int), .slice a' nl' c', .int .i64 mn', .int .i64 mx', .string (Str t')] := by
  obtain ⟨k', s', mn', mx', t', a', c', ks'⟩ := m
  simp only [Nd.set] at hvs
  subst hvs
  exact ⟨k', mn', mx', a', ks'.length, c', t', rfl, rfl⟩
theorem szs_kids (k : Int) (s : List Nat) (mn mx : Int) (t : List UInt8) (a : Option Addr) (c : Nat) (ks : List Nd) (h : sz (.mk k s mn mx t a c ks) ≤ 100000) : szs ks ≤ 100000 ∧ ks.length ≤ 100000 := by
  simp only [sz] at h
  have := szs_len ks
  omega
end Tr
end Go.Proofs.YtoeeddfinmfnoaaDoor

/- Trees of a call's own: every row of kids is owned, no two rows in one block. -/
namespace Go.Proofs.YtoeeddfinmfnoaaDoor
open Go Go.RowKit Kt St Sp Bk Tr
namespace Rx
mutual
/-- The blocks of its rows. -/
def bks : Nd → List Nat
  | .mk _ _ _ _ _ a c ks => (Value.slice a ks.length c).ownBlock.toList ++ bkss ks
def bkss : List Nd → List Nat
  | [] => []
  | n :: r => bks n ++ bkss r
end
mutual
/-- Every row is owned. -/
def Od (B : Nat) (W : World) : Nd → Prop
  | .mk _ s _ _ _ a c ks => s.length = 4 ∧ W.ownsRow B 27 9 (.slice a ks.length c) ks.length (ks.flatMap cells) ∧ Ods B W ks
def Ods (B : Nat) (W : World) : List Nd → Prop
  | [] => True
  | n :: r => Od B W n ∧ Ods B W r
end
theorem bkss_append : ∀ (a b : List Nd), bkss (a ++ b) = bkss a ++ bkss b
  | [], _ => rfl
  | n :: r, b => by simp only [List.cons_append, bkss, bkss_append r b, List.append_assoc]
theorem bkss_mem : ∀ {ks : List Nd} {n : Nd}, n ∈ ks → ∀ g ∈ bks n, g ∈ bkss ks
  | m :: r, n, h, g, hg => by
    rcases List.mem_cons.1 h with rfl | h
    · exact List.mem_append.2 (.inl hg)
    · exact List.mem_append.2 (.inr (bkss_mem h g hg))
theorem bkss_of : ∀ {ks : List Nd} {g : Nat}, g ∈ bkss ks → ∃ n ∈ ks, g ∈ bks n
  | [], _, h => by cases h
  | m :: r, g, h => by
    rcases List.mem_append.1 h with h | h
    · exact ⟨m, by simp, h⟩
    · obtain ⟨n, hn, hg⟩ := bkss_of h
      exact ⟨n, by simp [hn], hg⟩
theorem Ods.of {B : Nat} {W : World} : ∀ {ks : List Nd}, (∀ n ∈ ks, Od B W n) → Ods B W ks
  | [], _ => trivial
  | _ :: _, h => ⟨h _ (by simp), Ods.of fun n hn => h n (by simp [hn])⟩
theorem Od.len {B : Nat} {W : World} {n : Nd} (h : Od B W n) : n.set.length = 4 := by
  cases n
  exact h.1
mutual
theorem Od.lt {B : Nat} {W : World} : ∀ {n : Nd}, Od B W n → ∀ g ∈ bks n, B ≤ g ∧ g < W.heap.size
  | .mk _ _ _ _ _ a c ks, h, g, hg => by
    rcases List.mem_append.1 hg with hg | hg
    · exact h.2.1.lt g (Option.mem_toList.1 hg)
    · exact Ods.lt h.2.2 g hg
theorem Ods.lt {B : Nat} {W : World} : ∀ {ks : List Nd}, Ods B W ks → ∀ g ∈ bkss ks, B ≤ g ∧ g < W.heap.size
  | [], _, g, hg => by cases hg
  | n :: r, h, g, hg => by
    rcases List.mem_append.1 hg with hg | hg
    · exact Od.lt h.1 g hg
    · exact Ods.lt h.2 g hg
end
mutual
theorem Od.mod {B : Nat} {S : List Nat} {W W' : World} (hM : Mod S W W') : ∀ {n : Nd}, Od B W n → (∀ g ∈ bks n, g ∉ S) → Od B W' n
  | .mk _ _ _ _ _ _ _ _, h, hg => ⟨h.1, own_mod h.2.1 hM (fun q hq => hg q (List.mem_append.2 (.inl (Option.mem_toList.2 hq)))), Ods.mod hM h.2.2 fun g h => hg g (List.mem_append.2 (.inr h))⟩
theorem Ods.mod {B : Nat} {S : List Nat} {W W' : World} (hM : Mod S W W') : ∀ {ks : List Nd}, Ods B W ks → (∀ g ∈ bkss ks, g ∉ S) → Ods B W' ks
  | [], _, _ => trivial
  | _ :: _, h, hg => ⟨Od.mod hM h.1 fun g h => hg g (List.mem_append.2 (.inl h)), Ods.mod hM h.2 fun g h => hg g (List.mem_append.2 (.inr h))⟩
end
theorem Od.below {B : Nat} {W W' : World} (hb : Below W.heap.size W W') {n : Nd} (h : Od B W n) : Od B W' n := Od.mod (Mod.of_below hb []) h fun _ _ => by simp
mutual
theorem Od.base {B B' : Nat} {W : World} (hB : B' ≤ B) : ∀ {n : Nd}, Od B W n → Od B' W n
  | .mk _ _ _ _ _ _ _ _, h => ⟨h.1, own_base h.2.1 hB, Ods.base hB h.2.2⟩
theorem Ods.base {B B' : Nat} {W : World} (hB : B' ≤ B) : ∀ {ks : List Nd}, Ods B W ks → Ods B' W ks
  | [], _ => trivial
  | _ :: _, h => ⟨Od.base hB h.1, Ods.base hB h.2⟩
end
theorem own_hdr {w : World} {base e sz n c : Nat} {a : Option Addr} {xs : List Value} (h : w.ownsRow base e sz (.slice a n c) n xs) : n ≤ c ∧ c ≤ maxLen ∧ (a = none → c = 0) ∧ ∀ p, a = some p → p.block < w.heap.size := by
  obtain ⟨_, ⟨h1, h2⟩ | ⟨g, cap, cur, h1, _, h3, h4, h5, _⟩⟩ := h
  · simp only [Value.slice.injEq] at h1
    obtain ⟨rfl, rfl, rfl⟩ := h1
    exact ⟨Nat.le_refl _, Nat.zero_le _, fun _ => rfl, fun p hp => by cases hp⟩
  · simp only [Value.slice.injEq, true_and] at h1
    obtain ⟨rfl, rfl⟩ := h1
    exact ⟨h4, h5, fun h => (by cases h), fun p hp => by cases hp; exact block_lt h3⟩
mutual
theorem Od.is {B : Nat} {W : World} : ∀ {n : Nd}, Od B W n → Is W.heap.size W n
  | .mk _ _ _ _ _ _ _ _, h => by
    obtain ⟨h1, h2, h3, h4⟩ := own_hdr h.2.1
    exact ⟨h.1, h1, h2, h3, Rd.own h.2.1, fun p hp _ => h4 p hp, Ods.is h.2.2⟩
theorem Ods.is {B : Nat} {W : World} : ∀ {ks : List Nd}, Ods B W ks → IsAll W.heap.size W ks
  | [], _ => trivial
  | _ :: _, h => ⟨Od.is h.1, Ods.is h.2⟩
end
end Rx
end Go.Proofs.YtoeeddfinmfnoaaDoor
