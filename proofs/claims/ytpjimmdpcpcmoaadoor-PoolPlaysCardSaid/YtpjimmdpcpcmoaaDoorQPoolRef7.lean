/- The model's pool (dofferref30): New, the states. -/
import Derived.Test.YtpjimmdpcpcmoaaDoorQPoolRef6
namespace Go.Proofs.YtpjimmdpcpcmoaaDoor
open Go Go.RowKit Kt
namespace Po
variable {w w' : World} {z ob oc bb bc ak : Nat} {aa : Option Addr} {G : List Nat} {m : Md} {L : List Nat}
theorem elB8 : El Tryd.prog 55 54 (.slice none 0 0) 1 24 := ⟨Tryd.underlying55, info_parts (by kernel_rfl), rfl, by decide⟩
/-- Where New's loop stands. -/
structure Rw (w W : World) (z s k : Nat) (v vb : Value) (G : List Nat) : Prop where
  hp : W.heap[z]? = some (.cells #[.int .i64 (s : Int), v, vb, .slice none 0 0] 58 (0, 0))
  ho : W.ownsRow (z + 1) 3 1 v k (i64s (List.replicate k (-1)))
  hb : W.ownsRow (z + 1) 54 1 vb G.length (G.map fun g => .slice (some ⟨g, 0, none⟩) s s)
  d1 : ∀ q, v.ownBlock = some q → vb.ownBlock ≠ some q
  d2 : ∀ q ∈ G, v.ownBlock ≠ some q ∧ vb.ownBlock ≠ some q
  hg : ∀ g ∈ G, Rx W g 5 s (u8s (List.replicate s 0))
  gn : G.Nodup
  gb : ∀ g ∈ G, z + 1 ≤ g
  B : Below w.heap.size w W
  zw : w.heap.size ≤ z
theorem mem_ob {v : Value} {q : Nat} (h : q ∈ v.ownBlock.toList) : v.ownBlock = some q := by simpa using h
theorem Rw.next1 {W : World} {s k c : Nat} {a : Option Addr} {vb : Value} (h : Rw w W z s k (.slice a k c) vb G) (hk : k ≤ 256) :
    ∃ g2 c2 w2, (Builtin.append_ #[38, 38] 38 #[.slice a k c, .slice (some ⟨W.heap.size, 0, none⟩) 1 1]).run Tryd.prog (W.alloc (.cells #[.int .i64 (-1)] 3)) = .ok (.slice (some ⟨g2, 0, none⟩) (k + 1) c2) w2 ∧
      w2.heap[z]? = some (.cells #[.int .i64 (s : Int), .slice a k c, vb, .slice none 0 0] 58 (0, 0)) ∧
      Rw w (w2.setCell ⟨z, 1, none⟩ (.slice (some ⟨g2, 0, none⟩) (k + 1) c2)) z s (k + 1) (.slice (some ⟨g2, 0, none⟩) (k + 1) c2) vb G := by
  have hz := block_lt h.hp
  have b2 := (Below.refl W.heap.size W).alloc (Nat.le_refl _) (.cells #[.int .i64 (-1)] 3)
  have hown1 := own_keep h.ho b2
  have hrn : Rd (W.alloc (.cells #[.int .i64 (-1)] 3)) (some ⟨W.heap.size, 0, none⟩) [.int .i64 (-1)] := Rd.new W #[.int .i64 (-1)] 3 (0, 0) _ rfl
  obtain ⟨g2, c2, w2, hrun, own2, gr2, hlie, hg2⟩ := Mk.elI.lies (z + 1) (ty := 38) hown1 1 1 rfl (by decide) hrn (by simp [Value.oneCell']) (by unfold maxLen; omega) (by omega) (by simp; omega)
  have hM2 : Mod (Value.slice a k c).ownBlock.toList W w2 := ((Mod.refl _ W).alloc _).grown gr2 (fun q hq => .inl (by simp [hq]))
  have hzo : z ∉ (Value.slice a k c).ownBlock.toList := fun hq => by have := (h.ho.lt z (mem_ob hq)).1; omega
  have hp2 := (hM2.block z hz hzo).trans h.hp
  have hM3 : Mod [z] w2 (w2.setCell ⟨z, 1, none⟩ (.slice (some ⟨g2, 0, none⟩) (k + 1) c2)) := (Mod.refl [z] w2).setCell (.inl (by simp)) _
  have hno : ∀ q, z + 1 ≤ q → q ∉ [z] := fun q hq => by simp; omega
  have hrep : i64s (List.replicate k (-1)) ++ [Value.int .i64 (-1)] = i64s (List.replicate (k + 1) (-1)) := by rw [List.replicate_succ', i64s, i64s, List.map_append]; rfl
  rw [hrep] at own2
  have hb2 := own_mod h.hb hM2 (fun q hq hm => h.d1 q (mem_ob hm) hq)
  have hn2 : ∀ q, q < W.heap.size → (Value.slice a k c).ownBlock ≠ some q → q ≠ g2 := fun q h1 h2 e => by
    subst e
    rcases hlie with h3 | h3
    · exact h2 h3
    · simp at h3; omega
  refine ⟨g2, c2, w2, hrun, hp2, block_setCell hp2 _, own_mod own2 hM3 (fun q hq => hno q (own2.lt q hq).1), own_mod hb2 hM3 (fun q hq => hno q (hb2.lt q hq).1), fun q hq hq2 => ?_, fun q hq => ⟨fun e => ?_, (h.d2 q hq).2⟩, fun g hg => ((h.hg g hg).mod hM2 (fun hm => (h.d2 g hg).1 (mem_ob hm))).mod hM3 (hno g (h.gb g hg)), h.gn, h.gb, ?_, h.zw⟩
  · have e : g2 = q := by simpa [Value.ownBlock] using hq
    exact hn2 q (h.hb.lt q hq2).2 (fun h5 => h.d1 q h5 hq2) e.symm
  · have e2 : g2 = q := by simpa [Value.ownBlock] using e
    exact hn2 q (h.hg q hq).lt (h.d2 q hq).1 e2.symm
  · exact (h.B.trans (hM2.toBelow h.B.size fun q hq => by have := (h.ho.lt q (mem_ob hq)).1; have := h.zw; omega)).trans (hM3.toBelow (by have := h.B.size; have := hM2.size; omega) fun q hq => by have := h.zw; simp at hq; omega)
theorem Rw.next2 {W : World} {s k c n : Nat} {a : Option Addr} {v : Value} (h : Rw w W z s k v (.slice a n c) G) (hn : G.length = n) (hk : n ≤ 256) :
    ∃ g2 c2 w2, (Builtin.append_ #[55, 55] 55 #[.slice a n c, .slice (some ⟨W.heap.size + 1, 0, none⟩) 1 1]).run Tryd.prog ((W.alloc (.cells (u8s (List.replicate s 0)).toArray 5 (0, 0))).alloc (.cells #[.slice (some ⟨W.heap.size, 0, none⟩) s s] 54)).drew = .ok (.slice (some ⟨g2, 0, none⟩) (n + 1) c2) w2 ∧
      w2.heap[z]? = some (.cells #[.int .i64 (s : Int), v, .slice a n c, .slice none 0 0] 58 (0, 0)) ∧
      Rw w (w2.setCell ⟨z, 2, none⟩ (.slice (some ⟨g2, 0, none⟩) (n + 1) c2)) z s k v (.slice (some ⟨g2, 0, none⟩) (n + 1) c2) (G ++ [W.heap.size]) := by
  subst hn
  have hz := block_lt h.hp
  have b1 := (Below.refl W.heap.size W).alloc (Nat.le_refl _) (.cells (u8s (List.replicate s 0)).toArray 5 (0, 0))
  have b2 := (b1.alloc (by simp) (.cells #[.slice (some ⟨W.heap.size, 0, none⟩) s s] 54)).drew
  have hown1 := own_keep h.hb b2
  have hrn : Rd ((W.alloc (.cells (u8s (List.replicate s 0)).toArray 5 (0, 0))).alloc (.cells #[.slice (some ⟨W.heap.size, 0, none⟩) s s] 54)) (some ⟨W.heap.size + 1, 0, none⟩) [.slice (some ⟨W.heap.size, 0, none⟩) s s] := by
    have := Rd.new (W.alloc (.cells (u8s (List.replicate s 0)).toArray 5 (0, 0))) #[.slice (some ⟨W.heap.size, 0, none⟩) s s] 54 (0, 0) [.slice (some ⟨W.heap.size, 0, none⟩) s s] rfl
    simpa using this
  obtain ⟨g2, c2, w2, hrun, own2, gr2, hlie, hg2⟩ := elB8.lies (z + 1) (ty := 55) hown1 1 1 rfl (by decide) (hrn.keep (Below.refl _ _).drew) (by simp [Value.oneCell']) (by unfold maxLen; omega) (by omega) (by simp; omega)
  have hM1 : Mod (Value.slice a G.length c).ownBlock.toList (W.alloc (.cells (u8s (List.replicate s 0)).toArray 5 (0, 0))) w2 := ((Mod.refl _ _).alloc _).drew.grown gr2 (fun q hq => .inl (by simp [hq]))
  have hM2 : Mod (Value.slice a G.length c).ownBlock.toList W w2 := (((Mod.refl _ W).alloc _).alloc _).drew.grown gr2 (fun q hq => .inl (by simp [hq]))
  have hzo : z ∉ (Value.slice a G.length c).ownBlock.toList := fun hq => by have := (h.hb.lt z (mem_ob hq)).1; omega
  have hp2 := (hM2.block z hz hzo).trans h.hp
  have hM3 : Mod [z] w2 (w2.setCell ⟨z, 2, none⟩ (.slice (some ⟨g2, 0, none⟩) (G.length + 1) c2)) := (Mod.refl [z] w2).setCell (.inl (by simp)) _
  have hno : ∀ q, z + 1 ≤ q → q ∉ [z] := fun q hq => by simp; omega
  have hrep : (G.map fun g => Value.slice (some ⟨g, 0, none⟩) s s) ++ [Value.slice (some ⟨W.heap.size, 0, none⟩) s s] = (G ++ [W.heap.size]).map fun g => Value.slice (some ⟨g, 0, none⟩) s s := by rw [List.map_append]; rfl
  rw [hrep] at own2
  have ho2 := own_mod h.ho hM2 (fun q hq hm => h.d1 q hq (mem_ob hm))
  have hn2 : ∀ q, q ≤ W.heap.size → (Value.slice a G.length c).ownBlock ≠ some q → q ≠ g2 := fun q h1 h2 e => by
    subst e
    rcases hlie with h3 | h3
    · exact h2 h3
    · simp at h3; omega
  have hlt : ∀ q, (Value.slice a G.length c).ownBlock = some q → q < W.heap.size := fun q hq => (h.hb.lt q hq).2
  have hnew := (Rx.new W 5 (u8s (List.replicate s 0))).mod hM1 (fun hm => by have := hlt _ (mem_ob hm); omega)
  have hsl : (u8s (List.replicate s (0 : UInt8))).length = s := by simp [u8s]
  rw [hsl] at hnew
  refine ⟨g2, c2, w2, hrun, hp2, block_setCell hp2 _, own_mod ho2 hM3 (fun q hq => hno q (ho2.lt q hq).1), ?_, fun q hq hq2 => ?_, fun q hq => ?_, fun g hg => ?_, ?_, fun g hg => ?_, ?_, h.zw⟩
  · have := own_mod own2 hM3 (fun q hq => hno q (own2.lt q hq).1)
    simpa using this
  · have e : g2 = q := by simpa [Value.ownBlock] using hq2
    exact hn2 q (Nat.le_of_lt (h.ho.lt q hq).2) (fun h5 => h.d1 q hq h5) e.symm
  · rcases List.mem_append.1 hq with h1 | h1
    · exact ⟨(h.d2 q h1).1, fun e => hn2 q (Nat.le_of_lt (h.hg q h1).lt) (h.d2 q h1).2 (by simpa [Value.ownBlock, eq_comm] using e)⟩
    · simp only [List.mem_singleton] at h1
      subst h1
      exact ⟨fun e => by have := (h.ho.lt _ e).2; omega, fun e => hn2 _ (Nat.le_refl _) (fun e2 => by have := hlt _ e2; omega) (by simpa [Value.ownBlock, eq_comm] using e)⟩
  · rcases List.mem_append.1 hg with h1 | h1
    · exact ((h.hg g h1).mod hM2 (fun hm => (h.d2 g h1).2 (mem_ob hm))).mod hM3 (hno g (h.gb g h1))
    · simp only [List.mem_singleton] at h1
      subst h1
      exact hnew.mod hM3 (hno _ (by omega))
  · rw [List.nodup_append]
    exact ⟨h.gn, by simp, fun a ha b hb e => by simp only [List.mem_singleton] at hb; have := (h.hg a ha).lt; omega⟩
  · rcases List.mem_append.1 hg with h1 | h1
    · exact h.gb g h1
    · simp only [List.mem_singleton] at h1; omega
  · exact (h.B.trans (hM2.toBelow h.B.size fun q hq => by have := (h.hb.lt q (mem_ob hq)).1; have := h.zw; omega)).trans (hM3.toBelow (by have := h.B.size; have := hM2.size; omega) fun q hq => by have := h.zw; simp at hq; omega)
/-- The state behind New. -/
theorem Rw.fin {W : World} {s n c c' : Nat} {a a' : Option Addr} (h : Rw w W z s n (.slice a n c) (.slice a' n c') G) (hn : G.length = n) (h1 : 1 ≤ n) (h2 : n ≤ 256) (h3 : 1 ≤ s) (h4 : s ≤ 64) : ∃ L, RI W z L (new n s) ∧ (∀ k ∈ L, w.heap.size ≤ k) := by
  subst hn
  obtain ⟨g1, g2, _, _⟩ := sown h.ho
  obtain ⟨g3, g4, _, _⟩ := sown h.hb
  have hs : ∀ {base e sz n cap : Nat} {a : Option Addr} {xs : List Value} , W.ownsRow base e sz (.slice a n cap) n xs → 1 ≤ n → ∃ g, a = some ⟨g, 0, none⟩ := fun h hn => by
    rcases h.2 with ⟨h5, h6⟩ | ⟨g, cap', cur, h5, _⟩
    · omega
    · simp only [Value.slice.injEq] at h5
      exact ⟨g, h5.1⟩
  obtain ⟨ob, rfl⟩ := hs h.ho h1
  obtain ⟨bb, rfl⟩ := hs h.hb h1
  obtain ⟨ho, _, hob⟩ := Rx.of_own h.ho
  obtain ⟨hb, _, hbb⟩ := Rx.of_own h.hb
  have hz := h.zw
  have e1 : ob ≠ bb := fun e => h.d1 ob rfl (by rw [e]; rfl)
  have e2 : ∀ g ∈ G, g ≠ ob ∧ g ≠ bb := fun g hg => ⟨fun e => (h.d2 g hg).1 (by rw [e]; rfl), fun e => (h.d2 g hg).2 (by rw [e]; rfl)⟩
  refine ⟨_, ⟨⟨ob, c, bb, c', none, 0, G, ⟨?_, by simpa [new] using ho, g2, by simpa [new] using hb, g4, Rd.nil _ _, by simp [new], by unfold maxLen; omega, fun _ => rfl, (fun k hk => by simp [sb] at hk), by simp [new], (fun i g x h5 h6 => ?_), (fun g hg => (h.hg g hg).lt), ?_⟩, rfl⟩, new_ok h1 h2 h3 h4⟩, ?_⟩
  · simp only [new, List.length_replicate]
    exact h.hp
  · have h7 := List.mem_of_getElem? h6
    simp only [new] at h7
    rw [List.eq_of_mem_replicate h7]
    exact h.hg g (List.mem_of_getElem? h5)
  · simp only [sb, Option.map_none, Option.toList_none, List.nil_append, List.nodup_cons, List.mem_cons, not_or]
    exact ⟨⟨by omega, by omega, fun h8 => by have := h.gb z h8; omega⟩, ⟨e1, fun h8 => (e2 ob h8).1 rfl⟩, fun h8 => (e2 bb h8).2 rfl, h.gn⟩
  · intro k hk
    simp only [sb, Option.map_none, Option.toList_none, List.nil_append, List.mem_cons] at hk
    rcases hk with rfl | rfl | rfl | hk
    · omega
    · omega
    · omega
    · have := h.gb k hk; omega
end Po
end Go.Proofs.YtpjimmdpcpcmoaaDoor
