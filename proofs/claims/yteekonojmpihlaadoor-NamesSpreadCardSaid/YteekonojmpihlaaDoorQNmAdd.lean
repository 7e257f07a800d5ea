import Derived.Test.YteekonojmpihlaaDoorQNmSp
/- Package names: Add. Condition: the sentinels read as laid. -/
namespace Go.Proofs.YteekonojmpihlaaDoor
namespace Kt
end Kt
namespace St
end St
namespace Sp
end Sp
namespace Bk
end Bk
namespace Tr
end Tr
open Go Go.RowKit Go.Shelf Kt St Sp Bk Tr
namespace Bo
/-- The name's place: appended to the list of names. -/
theorem NB.app {w : World} {p mb n c : Nat} {g : Option Addr} {Ts : Bks} (h : NB w p g c mb n Ts) (hn : n < 32) (s : List UInt8) :
    ∃ g' cap w6, (Builtin.append_ #[38, 38] 38 #[.slice g n c, .slice (some ⟨w.heap.size, 0, none⟩) 1 1]).run Tryd.prog (w.alloc (.cells #[.string (Str s)] 9)) = .ok (.slice (some ⟨g', 0, none⟩) (n + 1) cap) w6 ∧
      w6.cell? ⟨p, 0, none⟩ = some (.slice g n c) ∧ w6.frozen? ⟨p, 0, none⟩ = false ∧
      (w6.setCell ⟨p, 0, none⟩ (.slice (some ⟨g', 0, none⟩) (n + 1) cap)).heap[p]? = some (.cells #[.slice (some ⟨g', 0, none⟩) (n + 1) cap, .map (some mb)] 109 (0, 0)) ∧
      (w6.setCell ⟨p, 0, none⟩ (.slice (some ⟨g', 0, none⟩) (n + 1) cap)).ownsRow 0 9 1 (.slice (some ⟨g', 0, none⟩) (n + 1) cap) (n + 1) (snames Ts ++ [.string (Str s)]) ∧
      MapG Tryd.prog nv rdn ndw 9 nil0 (w6.setCell ⟨p, 0, none⟩ (.slice (some ⟨g', 0, none⟩) (n + 1) cap)) mb n Ts ∧
      Mod (p :: (Value.slice g n c).ownBlock.toList) w (w6.setCell ⟨p, 0, none⟩ (.slice (some ⟨g', 0, none⟩) (n + 1) cap)) ∧ (g' ∈ (Value.slice g n c).ownBlock.toList ∨ w.heap.size ≤ g') ∧ g' < (w6.setCell ⟨p, 0, none⟩ (.slice (some ⟨g', 0, none⟩) (n + 1) cap)).heap.size ∧ g' ≠ p ∧ g' ≠ mb := by
  have hlt := h.lts
  have hpl := hlt p (by simp)
  have hml := hlt mb (by simp)
  have b1 : Below w.heap.size w (w.alloc (.cells #[.string (Str s)] 9)) := (Below.refl _ _).alloc (Nat.le_refl _) _
  have hN1 := h.mod (Mod.of_below b1 []) (by simp)
  have hrn : Rd (w.alloc (.cells #[.string (Str s)] 9)) (some ⟨w.heap.size, 0, none⟩) [.string (Str s)] := Rd.new _ _ _ _ _ rfl
  obtain ⟨W1, hW1⟩ : ∃ W1, w.alloc (.cells #[.string (Str s)] 9) = W1 := ⟨_, rfl⟩
  have hz1 : W1.heap.size = w.heap.size + 1 := by rw [← hW1]; simp
  rw [hW1] at b1 hN1 hrn ⊢
  obtain ⟨g', cap, w6, hrun, own6, gr6, hlie, hg6⟩ := (show El Tryd.prog _ _ _ 1 16 from elStr).lies 0 (ty := 38) hN1.ho 1 1 (news := [.string (Str s)]) rfl (by decide) hrn (by intro u hu; simp at hu; subst hu; rfl) (by unfold maxLen; omega) (by omega) (Nat.zero_le _)
  have hg' : g' ∈ (Value.slice g n c).ownBlock.toList ∨ w.heap.size ≤ g' := by
    rcases hlie with h | h
    · exact .inl (by simp [h])
    · exact .inr (by omega)
  have hgp : g' ≠ p ∧ g' ≠ mb := by
    rcases hg' with h1 | h1
    · exact h.n2 g' h1
    · omega
  have hM6 : Mod (Value.slice g n c).ownBlock.toList w w6 := (Mod.of_below b1 _).grown gr6 (fun q hq => .inl (by simp [hq]))
  have hp6 := (hM6.block p hpl (fun hq => (h.n2 p hq).1 rfl)).trans h.hp
  have hm6 := h.hm.mod hM6 (fun hq => (h.n2 mb hq).2 rfl)
  have hM7 : Mod [p] w6 (w6.setCell ⟨p, 0, none⟩ (.slice (some ⟨g', 0, none⟩) (n + 1) cap)) := (Mod.refl [p] w6).setCell (.inl (by simp)) _
  refine ⟨g', cap, w6, hrun, cell_block hp6 0, frozen_block hp6 0, ?_, ?_, hm6.mod hM7 (by simp; exact fun e => h.n1 e.symm), ?_, hg', Nat.lt_of_lt_of_le hg6 hM7.size, hgp⟩
  · rw [block_setCell (i := 0) (show _ = some (Obj.cells _ _ _) from hp6)]
    simp only [List.setIfInBounds_toArray, List.set_cons_zero]
  · exact own_mod own6 hM7 (fun k hk => by simp [Value.ownBlock] at hk; subst hk; simp; exact hgp.1)
  · exact (hM6.sub (S' := p :: (Value.slice g n c).ownBlock.toList) (by intro q hq; exact List.mem_cons_of_mem _ hq)).trans hM7 (fun q hq => .inl (by simp at hq; simp [hq]))
/-- What Add answers. -/
def AdP (E : Nat → Addr) (p : Nat) (L X : List Nat) (B : Bks) (s : List UInt8) (n : Nd) (w : World) (e : Ending) (w' : World) : Prop :=
  e = .returned (ee E (addE B s n)) ∧ ∃ L', BK w' p L' X (add B s n) ∧ Mod L w w' ∧ Fr L' L w.heap.size
theorem AdP.no {E : Nat → Addr} {p : Nat} {L X : List Nat} {B : Bks} {s : List UInt8} {n : Nd} {w w' : World} (h : BK w p L X B) (v : Int) (hv : addE B s n = v) (h0 : v ≠ 0) (hB : Below w.heap.size w w') : AdP E p L X B s n w (.returned (ee E v)) w' := by
  subst hv
  refine ⟨rfl, L, ?_, Mod.of_below hB L, fun k hk => .inl hk⟩
  rw [add, if_neg h0]
  exact h.below hB
/-- The last step: the copy comes into the map. -/
theorem AdP.yes {E : Nat → Addr} {p g' cap mb n c : Nat} {X : List Nat} {Ts : Bks} {g : Option Addr} {s : List UInt8} {x m : Nd} {w w4 w6 w9 w10 : World} (h1 : NB w p g c mb n Ts) (h3 : Trs w (Lof p mb g n c ++ X) Ts) (hX : ∀ b ∈ X, b < w.heap.size)
    (hv : addE (erB Ts) s x = 0) (hB4 : Below w.heap.size w w4) (hn : n < 32)
    (a1 : (w6.setCell ⟨p, 0, none⟩ (.slice (some ⟨g', 0, none⟩) (n + 1) cap)).heap[p]? = some (.cells #[.slice (some ⟨g', 0, none⟩) (n + 1) cap, .map (some mb)] 109 (0, 0)))
    (a2 : (w6.setCell ⟨p, 0, none⟩ (.slice (some ⟨g', 0, none⟩) (n + 1) cap)).ownsRow 0 9 1 (.slice (some ⟨g', 0, none⟩) (n + 1) cap) (n + 1) (snames Ts ++ [.string (Str s)]))
    (a4 : Mod (p :: (Value.slice g n c).ownBlock.toList) w4 (w6.setCell ⟨p, 0, none⟩ (.slice (some ⟨g', 0, none⟩) (n + 1) cap))) (a5 : g' ∈ (Value.slice g n c).ownBlock.toList ∨ w4.heap.size ≤ g') (a6 : g' < (w6.setCell ⟨p, 0, none⟩ (.slice (some ⟨g', 0, none⟩) (n + 1) cap)).heap.size) (a7 : g' ≠ p ∧ g' ≠ mb)
    (hb9 : Below (w6.setCell ⟨p, 0, none⟩ (.slice (some ⟨g', 0, none⟩) (n + 1) cap)).heap.size (w6.setCell ⟨p, 0, none⟩ (.slice (some ⟨g', 0, none⟩) (n + 1) cap)) w9) (hme : er m = er x) (hmi : Is w9.heap.size w9 m) (hmb : Bl ((w6.setCell ⟨p, 0, none⟩ (.slice (some ⟨g', 0, none⟩) (n + 1) cap)).heap.size ≤ ·) m)
    (hm10 : MapG Tryd.prog nv rdn ndw 9 nil0 w10 mb (n + 1) (Ts ++ [(s, m)])) (hg10 : w9.grownBy w10 (some mb)) : AdP E p (Lof p mb g n c) X (erB Ts) s x w (.returned .nilIface) w10 := by
  obtain ⟨W7, hW7⟩ : ∃ W7, w6.setCell ⟨p, 0, none⟩ (.slice (some ⟨g', 0, none⟩) (n + 1) cap) = W7 := ⟨_, rfl⟩
  rw [hW7] at a1 a2 a4 a6 hb9 hmb
  have hM10 : Mod [mb] w9 w10 := (Mod.refl [mb] w9).grown hg10 (fun k hk => .inl (by simp at hk; simp [hk]))
  have hz4 := hB4.size
  have hz7 := a4.size
  have hz9 := hb9.size
  have hz10 := hM10.size
  have hlts := h1.lts
  have hM7 : Mod (Lof p mb g n c) w W7 := (Mod.of_below hB4 _).trans a4 (fun q hq => .inl (by
    rcases List.mem_cons.1 hq with h | h
    · simp [h]
    · exact List.mem_cons_of_mem _ (List.mem_cons_of_mem _ h)))
  have hM9 : Mod (Lof p mb g n c) w w9 := hM7.below hb9
  have hMw : Mod (Lof p mb g n c) w w10 := hM9.trans hM10 (fun q hq => .inl (by simp at hq; simp [hq]))
  have hp10 : w10.heap[p]? = some (.cells #[.slice (some ⟨g', 0, none⟩) (n + 1) cap, .map (some mb)] 109 (0, 0)) :=
    (hM10.block p (by have := hlts p (by simp); omega) (by simp; exact h1.n1)).trans ((hb9.block p (block_lt a1)).trans a1)
  have ho10 : w10.ownsRow 0 9 1 (.slice (some ⟨g', 0, none⟩) (n + 1) cap) (n + 1) (snames (Ts ++ [(s, m)])) := by
    have := own_mod (own_keep a2 hb9) hM10 (fun k hk => by simp [Value.ownBlock] at hk; subst hk; simp; exact a7.2)
    simpa [snames] using this
  have hFr : Fr (Lof p mb (some ⟨g', 0, none⟩) (n + 1) cap) (Lof p mb g n c) w.heap.size := by
    intro k hk
    simp only [Value.ownBlock, List.mem_cons, Option.mem_toList, Option.some.injEq] at hk
    rcases hk with rfl | rfl | hk
    · simp
    · simp
    · subst hk
      rcases a5 with h | h
      · exact .inl (List.mem_cons_of_mem _ (List.mem_cons_of_mem _ h))
      · exact .inr (by omega)
  have hL7 : ∀ b ∈ Lof p mb (some ⟨g', 0, none⟩) (n + 1) cap ++ X, b < W7.heap.size := by
    intro b hb
    rcases List.mem_append.1 hb with hb | hb
    · simp only [Value.ownBlock, List.mem_cons, Option.mem_toList, Option.some.injEq] at hb
      rcases hb with rfl | rfl | hb
      · have := hlts b (by simp); omega
      · have := hlts b (by simp); omega
      · subst hb; exact a6
    · have := hX b hb; omega
  have hT : Trs w10 (Lof p mb (some ⟨g', 0, none⟩) (n + 1) cap ++ X) Ts := by
    have t1 : Trs w ((Lof p mb g n c ++ Lof p mb (some ⟨g', 0, none⟩) (n + 1) cap) ++ X) Ts := h3.sub fun b hb => by
      rcases List.mem_append.1 hb with hb | hb
      · rcases List.mem_append.1 hb with hb | hb
        · exact .inl (List.mem_append_left _ hb)
        · rcases hFr b hb with h | h
          · exact .inl (List.mem_append_left _ h)
          · exact .inr h
      · exact .inl (List.mem_append_right _ hb)
    exact (t1.mod hMw (fun b hb => .inl (List.mem_append_left _ (List.mem_append_left _ hb)))).sub fun b hb => .inl (by
      rcases List.mem_append.1 hb with hb | hb
      · exact List.mem_append_left _ (List.mem_append_right _ hb)
      · exact List.mem_append_right _ hb)
  have hv' := hv
  simp only [addE] at hv'
  have h5 : Ac.nm s = true := by
    by_cases h : Ac.nm s = false
    · rw [if_pos h] at hv'; cases hv'
    · simpa using h
  rw [if_neg (by simp [h5])] at hv'
  have h4 : rgt x = true := by
    by_cases h : rgt x = false
    · rw [if_pos h] at hv'; cases hv'
    · simpa using h
  refine ⟨by rw [hv]; rfl, Lof p mb (some ⟨g', 0, none⟩) (n + 1) cap, ⟨some ⟨g', 0, none⟩, cap, mb, n + 1, Ts ++ [(s, m)], ⟨hp10, ho10, hm10, by simp [h1.hn], h1.n1, ?_, by omega, ?_⟩, rfl, ?_, ?_⟩, hMw, hFr⟩
  · intro b hb
    simp [Value.ownBlock] at hb
    subst hb
    exact a7
  · intro q hq
    rcases List.mem_append.1 hq with hq | hq
    · exact h1.nm q hq
    · simp only [List.mem_singleton] at hq
      subst hq
      exact h5
  · intro q hq
    rcases List.mem_append.1 hq with hq | hq
    · exact hT q hq
    · simp only [List.mem_singleton] at hq
      subst hq
      refine ⟨is_mod hmi hmb hM10 (fun b hb => .inl (by simp at hb; subst hb; have := hlts b (by simp); omega)), by rw [same_rgt hme]; exact h4, hmb.mono fun q hq hz => ?_⟩
      have := hL7 q hz
      omega
  · rw [add, if_pos hv]
    simp [erB, hme]
set_option maxRecDepth 100000 in
set_option maxHeartbeats 8000000 in
theorem add_c (E : Nat → Addr) (p : Nat) (L X : List Nat) (B : Bks) (s : List UInt8) (hs : s.length ≤ 9223372036854775807) (x : Nd) (ht : ∀ y ∈ walk x, y.1.text.length ≤ 9223372036854775807) (w : World) (hIs : Is w.heap.size w x) (hxL : Bl (· ∉ L) x) (h : BK w p L X B) (hX : ∀ b ∈ X, b < w.heap.size) (hse : Sent 204 w E Er.egs) :
    Calls Tryd.prog 17 #[.pointer (some ⟨p, 0, none⟩), .string (Str s), nv x] w (AdP E p L X B s x w) := by
  have hno := fun v w' => AdP.no (E := E) (s := s) (n := x) (w' := w') h v
  have hlenB := h.len
  obtain ⟨g, c, mb, n, Ts, h1, rfl, h3, rfl⟩ := h.ex
  obtain ⟨x0, x1, x2, x3, hx⟩ := four' hIs.len
  obtain ⟨k, mn, mx, a, nl, cc, t, hnv, _⟩ := nv_explicit hx
  obtain ⟨m1, hm1⟩ : ∃ m1, (lkS Ts s).getD nil0 = m1 := ⟨_, rfl⟩
  have hi1 : m1.set.length = 4 := by
    rw [← hm1]
    cases hk : lkS Ts s with
    | none => rfl
    | some m0 => exact (h3 _ (lkS_mem hk)).1.len
  obtain ⟨y0, y1, y2, y3, hy⟩ := four' hi1
  obtain ⟨kk, kmn, kmx, ka, kl, kc, kt, hnv1, _⟩ := nv_explicit hy
  obtain ⟨B4, hB4⟩ : ∃ B4, Obj.cells #[.int .i64 k, .int .u64 (x0 : Int), .int .u64 (x1 : Int), .int .u64 (x2 : Int), .int .u64 (x3 : Int), .slice a nl cc, .int .i64 mn, .int .i64 mx, .string (Str t)] 37 (0, 0) = B4 := ⟨_, rfl⟩
  obtain ⟨B6, hB6⟩ : ∃ B6, Obj.cells #[.int .i64 kk, .int .u64 (y0 : Int), .int .u64 (y1 : Int), .int .u64 (y2 : Int), .int .u64 (y3 : Int), .slice ka kl kc, .int .i64 kmn, .int .i64 kmx, .string (Str kt)] 37 (0, 0) = B6 := ⟨_, rfl⟩
  have b1 : Below w.heap.size w (w.alloc B4) := (Below.refl _ w).alloc (Nat.le_refl _) _
  have hN1 := h1.mod (Mod.of_below b1 []) (by simp)
  have k1 : (w.alloc B4).cell? ⟨p, 1, none⟩ = some (.map (some mb)) := cell_block hN1.hp 1
  have hl := hN1.look s hs
  rw [hm1, hnv1] at hl
  have z1 : (w.alloc B4).heap.size = w.heap.size + 1 := by simp
  have l4 : ((w.alloc B4).alloc B6).heap[w.heap.size]? = some B4 := block_alloc (World.alloc_heap_new w B4)
  have hB : Below w.heap.size w ((w.alloc B4).alloc B6) := b1.alloc (by simp) _
  obtain ⟨W3, hW3⟩ : ∃ W3, (w.alloc B4).alloc B6 = W3 := ⟨_, rfl⟩
  have z3 : W3.heap.size = w.heap.size + 2 := by rw [← hW3]; simp
  rw [hW3] at l4 hB
  rw [← hB4, ← hB6] at hW3
  rw [← hB4] at l4 k1 hl
  clear hB4 hB6 z1 B4 B6 hN1 b1
  have hgl : ∀ W : World, Below w.heap.size w W → W.cell? ⟨0, 0, none⟩ = some (ee E 5) ∧ W.cell? ⟨1, 0, none⟩ = some (ee E 4) ∧ W.cell? ⟨2, 0, none⟩ = some (ee E 6) ∧ W.cell? ⟨3, 0, none⟩ = some (ee E 13) := fun W hb =>
    ⟨sentc (hse.keep hb) 5 (by decide) (by decide), sentc (hse.keep hb) 4 (by decide) (by decide), sentc (hse.keep hb) 6 (by decide) (by decide), sentc (hse.keep hb) 13 (by decide) (by decide)⟩
  obtain ⟨e5, h5⟩ : ∃ v, ee E 5 = v := ⟨_, rfl⟩
  obtain ⟨e4, h4⟩ : ∃ v, ee E 4 = v := ⟨_, rfl⟩
  obtain ⟨e6, h6⟩ : ∃ v, ee E 6 = v := ⟨_, rfl⟩
  obtain ⟨e13, h13⟩ : ∃ v, ee E 13 = v := ⟨_, rfl⟩
  have r5 := hno 5
  have r4 := hno 4
  have r6 := hno 6
  have r13 := hno 13
  rw [h5] at r5
  rw [h4] at r4
  rw [h6] at r6
  rw [h13] at r13
  rw [h5, h4, h6, h13] at hgl
  clear h5 h4 h6 h13 hno
  have hnm := fun W => Ac.isname_c s hs W
  have hrt := right_c x ht W3 (Is.mono hB.size (Is.below hB hIs))
  have hnin : (lkS Ts s).isSome = decide (lkS (erB Ts) s ≠ none) := by rw [lkS_er]; cases lkS Ts s <;> simp
  have hln : (erB Ts).length = n := by simp [erB, h1.hn]
  have HI := Lib.hid hIs
  have HT := Lib.hid ht
  have HXL := Lib.hid hxL
  have HB := Lib.hid hB
  have HZ := Lib.hid z3
  have HW3 := Lib.hid hW3
  have HNv := Lib.hid hnv
  have HG := Lib.hid hgl
  have HL := Lib.hid l4
  have HN := Lib.hid (And.intro h1 (And.intro h3 hX))
  obtain ⟨bo, hbo⟩ : ∃ bo, (lkS Ts s).isSome = bo := ⟨_, rfl⟩
  rw [hbo] at hl hnin
  rw [hnv] at hrt ⊢
  by_cases c5 : Ac.nm s = false
  · have R := Lib.hid (fun w' => r5 w' (by rw [addE, if_pos c5]) (by decide))
    obtain ⟨g5, _⟩ := hgl W3 hB
    rw [c5] at hnm
    have HNm := Lib.hid hnm
    clear hnm hrt r5 r4 r6 r13 hbo hnin l4 hB z3 hW3 hnv hnv1 hx hy hm1 hi1 h1 h3 hX h hse hIs ht hxL hgl hlenB hln
    go_enter Tryd.func17, Tryd.ntmps17
    go_wp2_with fail
    rw [HW3.out]
    with_reducible refine (HNm.out _).mono ?_
    rintro e w4 ⟨rfl, rfl⟩
    go_wp2
    go_ret
    exact R.out _ HB.out
  · have c5' : Ac.nm s = true := by simpa using c5
    rw [c5'] at hnm
    have HNm := Lib.hid hnm
    obtain ⟨u0, u1, u2, u3, u4, u5, u6, u7, u8⟩ := nd_cells l4
    rw [← hW3] at u0 u1 u2 u3 u4 u5 u6 u7 u8
    by_cases c4 : rgt x = false
    · have R := Lib.hid (fun w' => r4 w' (by rw [addE, if_neg c5, if_pos c4]) (by decide))
      rw [c4] at hrt
      have HRt := Lib.hid hrt
      clear hnm hrt r5 r4 r6 r13 hbo hnin l4 hB z3 hW3 hnv hnv1 hx hy hm1 hi1 h1 h3 hX h hse hIs ht hxL hgl hlenB hln
      go_enter Tryd.func17, Tryd.ntmps17
      go_wp2_with fail
      rw [HW3.out]
      rw [HW3.out] at u0 u1 u2 u3 u4 u5 u6 u7 u8
      with_reducible refine (HNm.out _).mono ?_
      rintro e w4 ⟨rfl, rfl⟩
      go_wp2_with fail
      with_reducible refine HRt.out.mono ?_
      rintro e w4 ⟨rfl, hb4⟩
      have hBB := HB.out.trans (hb4.mono HB.out.size)
      obtain ⟨_, g4, _⟩ := HG.out w4 hBB
      go_wp2
      go_ret
      exact R.out _ hBB
    · have c4' : rgt x = true := by simpa using c4
      rw [c4'] at hrt
      have HRt := Lib.hid hrt
      cases bo with
      | true =>
        have R := Lib.hid (fun w' => r6 w' (by rw [addE, if_neg c5, if_neg c4, if_pos (by simpa using hnin.symm)]) (by decide))
        clear hnm hrt r5 r4 r6 r13 hbo hnin l4 hB z3 hW3 hnv hnv1 hx hy hm1 hi1 h1 h3 hX h hse hIs ht hxL hgl hlenB hln
        go_enter Tryd.func17, Tryd.ntmps17
        go_wp2_with fail
        rw [HW3.out]
        rw [HW3.out] at u0 u1 u2 u3 u4 u5 u6 u7 u8
        with_reducible refine (HNm.out _).mono ?_
        rintro e w4 ⟨rfl, rfl⟩
        go_wp2_with fail
        with_reducible refine HRt.out.mono ?_
        rintro e w4 ⟨rfl, hb4⟩
        have hBB := HB.out.trans (hb4.mono HB.out.size)
        obtain ⟨_, _, g6, _⟩ := HG.out w4 hBB
        go_wp2
        go_ret
        exact R.out _ hBB
      | false =>
        have c6 : ¬ lkS (erB Ts) s ≠ none := by simpa using hnin.symm
        by_cases c13 : 32 ≤ n
        · have R := Lib.hid (fun w' => r13 w' (by rw [addE, if_neg c5, if_neg c4, if_neg c6, if_pos (by omega)]) (by decide))
          clear hnm hrt r5 r4 r6 r13 hbo hnin l4 hB z3 hW3 hnv hnv1 hx hy hm1 hi1 h1 h3 hX h hse hIs ht hxL hgl hlenB hln
          have hc13 : (32 : Int) ≤ (n : Int) := by omega
          go_enter Tryd.func17, Tryd.ntmps17
          go_wp2_with fail
          rw [HW3.out]
          rw [HW3.out] at u0 u1 u2 u3 u4 u5 u6 u7 u8
          with_reducible refine (HNm.out _).mono ?_
          rintro e w4 ⟨rfl, rfl⟩
          go_wp2_with fail
          with_reducible refine HRt.out.mono ?_
          rintro e w4 ⟨rfl, hb4⟩
          have hBB := HB.out.trans (hb4.mono HB.out.size)
          obtain ⟨_, _, _, g13⟩ := HG.out w4 hBB
          have k0 := cell_block (HN.out.1.mod (Mod.of_below hBB []) (by simp)).hp 0
          simp only [List.getElem?_toArray, List.getElem?_cons_zero, List.getElem?_cons_succ] at k0
          go_wp2
          go_ret
          exact R.out _ hBB
        · have hv : addE (erB Ts) s x = 0 := by rw [addE, if_neg c5, if_neg c4, if_neg c6, if_neg (by omega)]
          have hlno : lkS Ts s = none := by simpa using hbo
          have HV := Lib.hid (And.intro hv hlno)
          have c13' : ¬ (32 : Int) ≤ (n : Int) := by omega
          have c13'' : (n : Int) < 32 := by omega
          clear c6 hv hlno hnm hrt r5 r4 r6 r13 hbo hnin l4 hB z3 hW3 hnv hnv1 hx hy hm1 hi1 h1 h3 hX h hse hIs ht hxL hgl hlenB hln
          go_enter Tryd.func17, Tryd.ntmps17
          go_wp2_with fail
          rw [HW3.out]
          rw [HW3.out] at u0 u1 u2 u3 u4 u5 u6 u7 u8
          with_reducible refine (HNm.out _).mono ?_
          rintro e w4 ⟨rfl, rfl⟩
          go_wp2_with fail
          with_reducible refine HRt.out.mono ?_
          rintro e w4 ⟨rfl, hb4⟩
          have hBB := HB.out.trans (hb4.mono HB.out.size)
          have hN4 := HN.out.1.mod (Mod.of_below hBB []) (by simp)
          have k0 := cell_block hN4.hp 0
          simp only [List.getElem?_toArray, List.getElem?_cons_zero, List.getElem?_cons_succ] at k0
          obtain ⟨g', cap, w6, hrun, a01, a02, a1, a2, a3, a4, a5, a6, a7⟩ := hN4.app (by omega) s
          have hk0 : (w4.alloc (.cells #[.string (Str s)] 9)).cell? ⟨p, 0, none⟩ = some (.slice g n c) := by
            have := ((Below.refl w4.heap.size w4).alloc (Nat.le_refl _) (.cells #[.string (Str s)] 9)).cell (p := ⟨p, 0, none⟩) (block_lt hN4.hp)
            rw [this]; exact k0
          have hbox := (hb4.block _ (block_lt HL.out)).trans HL.out
          have hbox7 := (a4.block _ (block_lt hbox) (fun hq => by
            have h2 := HN.out.1.lts
            rcases List.mem_cons.1 hq with h | h
            · have := h2 p (by simp); omega
            · have := h2 _ (List.mem_cons_of_mem _ (List.mem_cons_of_mem _ h)); omega)).trans hbox
          obtain ⟨W7, hW7⟩ : ∃ W7, w6.setCell ⟨p, 0, none⟩ (.slice (some ⟨g', 0, none⟩) (n + 1) cap) = W7 := ⟨_, rfl⟩
          have HY := Lib.hid (fun w9 w10 m => AdP.yes (E := E) (m := m) (w9 := w9) (w10 := w10) HN.out.1 HN.out.2.1 HN.out.2.2 HV.out.1 hBB (by omega) a1 a2 a4 a5 a6 a7)
          rw [hW7] at a1 a3 hbox7 HY
          have hz7 := a4.size
          rw [hW7] at hz7
          have hcl := fun (W : World) (hb : Below W7.heap.size W7 W) => (⟨cell_block ((hb.block _ (block_lt a1)).trans a1) 1, nd_cells ((hb.block _ (block_lt hbox7)).trans hbox7)⟩ : (W.cell? ⟨p, 1, none⟩ = some (.map (some mb)) ∧ _))
          have HC := Lib.hid hcl
          have HM7 := Lib.hid a3
          have HW7 := Lib.hid hW7
          rw [hW7] at a4
          have hx7 : Is W7.heap.size W7 x := is_mod (Is.mono hBB.size (Is.below hBB HI.out)) HXL.out a4 (fun q hq => .inl (fun hn => hn (by
            rcases List.mem_cons.1 hq with h | h
            · simp [h]
            · exact List.mem_cons_of_mem _ (List.mem_cons_of_mem _ h))))
          have hcp := fun (W : World) (hb : Below W7.heap.size W7 W) => Copy_c x HT.out W (Is.mono hb.size (Is.below hb hx7))
          rw [HNv.out] at hcp
          have HCp := Lib.hid hcp
          obtain ⟨q0, q1, q2, q3, q4, q5, q6, q7, q8, q9⟩ := hcl W7 (Below.refl _ _)
          have hne : p ≠ mb ∧ w.heap.size ≠ mb := ⟨HN.out.1.n1, fun e => by have := HN.out.1.lts mb (by simp); omega⟩
          have HNe := Lib.hid hne
          have hp7 := block_lt a1
          have hw7 := block_lt hbox7
          have HLt := Lib.hid (And.intro hp7 hw7)
          have HH := Lib.hid (fun (W : World) (e1 : W.heap[p]? = W7.heap[p]?) (e2 : W.heap[w.heap.size]? = W7.heap[w.heap.size]?) => (⟨cell_block (e1.trans a1) 1, nd_cells (e2.trans hbox7)⟩ : (W.cell? ⟨p, 1, none⟩ = some (.map (some mb)) ∧ _)))
          clear a1 a2 a3 a4 a5 a6 a7 hcl hbox hbox7 hN4 hb4 hBB hW7 hz7 hx7 hcp hne hp7 hw7
          go_wp2_with (at_builtin; (with_reducible apply wpList_append_run hrun); rfl; rfl; rfl; rfl; rfl)
          rw [HW7.out]
          have n0 : Below W7.heap.size W7 W7.drew := (Below.refl _ _).drew
          refine wp_region_noPanic ?_
          refine wp_region_held_drew (S := fun W => W.cell? ⟨p, 1, none⟩ = some (.map (some mb)) ∧ (W.cell? ⟨w.heap.size, 0, none⟩ = some (.int .i64 k) ∧ W.cell? ⟨w.heap.size, 1, none⟩ = some (.int .u64 (x0 : Int)) ∧ W.cell? ⟨w.heap.size, 2, none⟩ = some (.int .u64 (x1 : Int)) ∧ W.cell? ⟨w.heap.size, 3, none⟩ = some (.int .u64 (x2 : Int)) ∧ W.cell? ⟨w.heap.size, 4, none⟩ = some (.int .u64 (x3 : Int)) ∧ W.cell? ⟨w.heap.size, 5, none⟩ = some (.slice a nl cc) ∧ W.cell? ⟨w.heap.size, 6, none⟩ = some (.int .i64 mn) ∧ W.cell? ⟨w.heap.size, 7, none⟩ = some (.int .i64 mx) ∧ W.cell? ⟨w.heap.size, 8, none⟩ = some (.string (Str t)))) (by kernel_rfl) (HC.out _ n0) (fun hHeld => ?_)
          (refine wpAnyH_take (i := 0) (v := ?v0n1) (by simp only [List.getElem?_toArray, List.getElem?_cons_succ, List.getElem?_cons_zero]; rfl) (by kernel_rfl) (by kernel_rfl) (by kernel_rfl) (fun _ _ _ h => False.elim h) (Or.inl ⟨by rfl, ?hy0n1⟩) (by assumption) ?rest0n1; (case hy0n1 => (intro w hSw; (try dsimp only at hSw); go_simp; (try with_reducible rfl))); (try simp only [Act.put, List.setIfInBounds_toArray, List.set_cons_zero, List.set_cons_succ]))
          (refine wpAnyH_take (i := 1) (v := ?v1n2) (by simp only [List.getElem?_toArray, List.getElem?_cons_succ, List.getElem?_cons_zero]; rfl) (by kernel_rfl) (by kernel_rfl) (by kernel_rfl) (fun _ _ _ h => False.elim h) (Or.inl ⟨by rfl, ?hy1n2⟩) (by assumption) ?rest1n2; (case hy1n2 => (intro w hSw; (try dsimp only at hSw); go_simp; (try with_reducible rfl))); (try simp only [Act.put, List.setIfInBounds_toArray, List.set_cons_zero, List.set_cons_succ]))
          (refine wpAnyH_take (i := 2) (v := ?v2n3) (by simp only [List.getElem?_toArray, List.getElem?_cons_succ, List.getElem?_cons_zero]; rfl) (by kernel_rfl) (by kernel_rfl) (by kernel_rfl) (fun _ _ _ h => False.elim h) (Or.inl ⟨by rfl, ?hy2n3⟩) (by assumption) ?rest2n3; (case hy2n3 => (intro w hSw; (try dsimp only at hSw); go_simp; (try with_reducible rfl))); (try simp only [Act.put, List.setIfInBounds_toArray, List.set_cons_zero, List.set_cons_succ]))
          (refine wpAnyH_take (i := 3) (v := ?v3n4) (by simp only [List.getElem?_toArray, List.getElem?_cons_succ, List.getElem?_cons_zero]; rfl) (by kernel_rfl) (by kernel_rfl) (by kernel_rfl) (fun _ _ _ h => False.elim h) (Or.inl ⟨by rfl, ?hy3n4⟩) (by assumption) ?rest3n4; (case hy3n4 => (intro w hSw; (try dsimp only at hSw); go_simp; (try with_reducible rfl))); (try simp only [Act.put, List.setIfInBounds_toArray, List.set_cons_zero, List.set_cons_succ]))
          (refine wpAnyH_take (i := 4) (v := ?v4n5) (by simp only [List.getElem?_toArray, List.getElem?_cons_succ, List.getElem?_cons_zero]; rfl) (by kernel_rfl) (by kernel_rfl) (by kernel_rfl) (fun _ _ _ h => False.elim h) (Or.inl ⟨by rfl, ?hy4n5⟩) (by assumption) ?rest4n5; (case hy4n5 => (intro w hSw; (try dsimp only at hSw); go_simp; (try with_reducible rfl))); (try simp only [Act.put, List.setIfInBounds_toArray, List.set_cons_zero, List.set_cons_succ]))
          (refine wpAnyH_take (i := 5) (v := ?v5n6) (by simp only [List.getElem?_toArray, List.getElem?_cons_succ, List.getElem?_cons_zero]; rfl) (by kernel_rfl) (by kernel_rfl) (by kernel_rfl) (fun _ _ _ h => False.elim h) (Or.inl ⟨by rfl, ?hy5n6⟩) (by assumption) ?rest5n6; (case hy5n6 => (intro w hSw; (try dsimp only at hSw); go_simp; (try with_reducible rfl))); (try simp only [Act.put, List.setIfInBounds_toArray, List.set_cons_zero, List.set_cons_succ]))
          (refine wpAnyH_ready (rs := [6]) (by kernel_rfl) (by simp) ?_; refine AllReadyH.cons (o := _) (by simp only [List.getElem?_toArray, List.getElem?_cons_succ, List.getElem?_cons_zero]; rfl) (fun K hK => ?_) AllReadyH.nil; go_simp; ((with_reducible refine (HCp.out _ n0).mono ?_); rintro e w9 ⟨m, rfl, hme, _, hmi, hmb, hb9, _⟩; have n1 := n0.trans (hb9.mono n0.size)); refine hK.out _ _ (by exact HC.out _ n1) (fun hHeld => ?_); clear hK K; (try simp only [Act.put, List.setIfInBounds_toArray, List.set_cons_zero, List.set_cons_succ]))
          obtain ⟨w10, hup, hm10, hg10⟩ := (HM7.out.below n1).set enc_nv Tryd.underlying107 Tryd.underlying9 (by unfold maxLen; omega) s hs HV.out.2 m
          have hM10 : Mod [mb] w9 w10 := (Mod.refl [mb] w9).grown hg10 (fun k hk => .inl (by simp at hk; simp [hk]))
          have hk10 := HH.out w10 ((hM10.block p (Nat.lt_of_lt_of_le HLt.out.1 n1.size) (by simp; exact HNe.out.1)).trans (n1.block p HLt.out.1)) ((hM10.block w.heap.size (Nat.lt_of_lt_of_le HLt.out.2 n1.size) (by simp; exact HNe.out.2)).trans (n1.block w.heap.size HLt.out.2))
          have HRe := Lib.hid (HY.out w9 w10 m n1 (hme c4') hmi (hmb.mono fun q hq => hq) hm10 hg10)
          have H10 := Lib.hid hk10
          clear hk10 hM10 hm10 hg10 hme hmi hmb hb9
          (refine wpAnyH_ready (rs := [7]) (by kernel_rfl) (by simp) ?_; refine AllReadyH.cons (o := _) (by simp only [List.getElem?_toArray, List.getElem?_cons_succ, List.getElem?_cons_zero]; rfl) (fun K hK => ?_) AllReadyH.nil; go_simp; (skip); refine hK.out _ _ (by exact H10.out) (fun hHeld => ?_); clear hK K; (try simp only [Act.put, List.setIfInBounds_toArray, List.set_cons_zero, List.set_cons_succ]))
          refine wpAnyH_done (by kernel_rfl) ?_ _
          refine NoPanic.normal ?_
          go_wp2
          go_ret
          exact HRe.out
end Bo
end Go.Proofs.YteekonojmpihlaaDoor
