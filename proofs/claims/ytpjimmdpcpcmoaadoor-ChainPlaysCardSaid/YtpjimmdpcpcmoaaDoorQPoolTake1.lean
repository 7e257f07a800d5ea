import Derived.Test.YtpjimmdpcpcmoaaDoorQPoolTake
/- The walks of package pool: the state behind Take. Condition: the table of TrailingZeros64 reads as laid. -/
namespace Go.Proofs.YtpjimmdpcpcmoaaDoor
open Go Go.RowKit Kt
namespace Po
variable {w w' : World} {p ob oc bb mz mg mb : Nat} {A : List (Int × Int × Nat)} {G : List (Option Nat)} {m : Md} {L : List Nat}
/-- Where Take stands behind its stores into the rows. -/
structure TkM (W1 W : World) (p ob oc bb mz mg mb bk z n i : Nat) (own : List Int) (G : List (Option Nat)) (U c H : Int) : Prop where
  hp : W.heap[p]? = some (.cells #[.slice (some ⟨bb, 0, none⟩) n n, .slice (some ⟨ob, 0, none⟩) n oc, .pointer (some ⟨mz, 0, none⟩), .map (some mb), .int .i64 (z : Int), .int .i64 U] 96 (0, 0))
  ho : Rx W ob 3 oc (i64s own)
  hb : Rx W bb 54 n ((G.set i (some W1.heap.size)).map (gv z))
  hk : W.heap[bk]? = some (.cells #[.int .i64 c, .int .i64 H] 101 (0, 0))
  hm : Mk.MI W mz mg (fr own)
  hg : Rx W W1.heap.size 5 z (u8s (List.replicate z 0))
  hM : Mod [ob, bb] W1 W
theorem alloc_set (w : World) (o : Obj) (b i : Nat) (v : Value) (hb : b < w.heap.size) : (w.setCell ⟨b, i, none⟩ v).alloc o = (w.alloc o).setCell ⟨b, i, none⟩ v :=
  (World.setCell_alloc_past o b i v hb).symm
theorem fm_set {G : List (Option Nat)} {i : Nat} (h : G[i]? = some none) (g : Nat) : ∃ a b, (G.set i (some g)).filterMap id = a ++ g :: b ∧ G.filterMap id = a ++ b := by
  obtain ⟨hl, hx⟩ := List.getElem?_eq_some_iff.1 h
  refine ⟨(G.take i).filterMap id, (G.drop (i + 1)).filterMap id, ?_, ?_⟩
  · rw [List.set_eq_take_append_cons_drop, if_pos hl, List.filterMap_append]
    rfl
  · conv => lhs; rw [← List.take_append_drop i G, List.filterMap_append, List.drop_eq_getElem_cons hl, hx]
    rfl
set_option maxHeartbeats 1000000 in
/-- The state behind Take. -/
theorem take_fin (hb : PB w p ob oc bb mz mg mb A G m) (hok : Ok m) {x c H U : Int} {i bk n z : Nat} (he : takE m x = 0) (hti : takI m x = i) (e2 : (x, c, bk) ∈ A) (hi : i < m.own.length) (hoi : m.own[i] < 0) (hGi : G[i]? = some none) (hx0 : 0 ≤ x)
    (hn : m.own.length = n) (hz : m.size = z) (hH : (held m.own x : Int) = H) (hU : (used m.own : Int) = U) {w1 wc : World} (hMw : Mod [mg] w w1) (hc : TkM w1 wc p ob oc bb mz mg mb bk z n i (m.own.set i x) G U c H) :
    ∃ L', PI ((wc.setCell ⟨bk, 1, none⟩ (.int .i64 (H + 1))).setCell ⟨p, 5, none⟩ (.int .i64 (U + 1))) p L' (tak m x) ∧ Mod (p :: ob :: bb :: mz :: mg :: mb :: (ab A ++ G.filterMap id)) w ((wc.setCell ⟨bk, 1, none⟩ (.int .i64 (H + 1))).setCell ⟨p, 5, none⟩ (.int .i64 (U + 1))) ∧
      Fr L' (p :: ob :: bb :: mz :: mg :: mb :: (ab A ++ G.filterMap id)) w.heap.size := by
  subst hn hz hH hU
  have ap := hb.ap
  have hxx := ap.x
  simp only [List.nodup_cons, List.mem_cons, List.not_mem_nil, or_false, not_or] at hxx
  have hbk := ap.a bk (List.mem_map.2 ⟨_, e2, rfl⟩)
  have hlt := hb.lts
  obtain ⟨fa, fb, hf1, hf2⟩ := fm_set hGi w1.heap.size
  have hu := used_set hi x
  rw [if_neg (by omega), if_pos hx0] at hu
  have hh := held_set hi x x
  rw [if_neg (by omega), if_pos ⟨rfl, hx0⟩] at hh
  have hho : ∀ y, y ≠ x → held (m.own.set i x) y = held m.own y := fun y hy => by
    have := held_set hi x y
    rw [if_neg (by omega), if_neg (by intro h; exact hy h.1.symm)] at this
    omega
  have hmd : tak m x = { m with own := m.own.set i x, cont := m.cont.set i (List.replicate m.size 0) } := by unfold tak; rw [if_pos he, hti]
  have hsz := hMw.size
  have hM3 : Mod [p, ob, bb, mg, bk] w ((wc.setCell ⟨bk, 1, none⟩ (.int .i64 ((held m.own x : Int) + 1))).setCell ⟨p, 5, none⟩ (.int .i64 ((used m.own : Int) + 1))) :=
    ((((hMw.sub (by simp)).trans hc.hM (by simp)).setCell (.inl (by simp)) _).setCell (.inl (by simp)) _)
  have hMc : Mod [bk, p] wc ((wc.setCell ⟨bk, 1, none⟩ (.int .i64 ((held m.own x : Int) + 1))).setCell ⟨p, 5, none⟩ (.int .i64 ((used m.own : Int) + 1))) := ((Mod.refl [bk, p] wc).setCell (.inl (by simp)) _).setCell (.inl (by simp)) _
  have hno : ∀ k, k ≠ bk → k ≠ p → k ∉ [bk, p] := fun k h1 h2 => by simp [h1, h2]
  have hpb : p ≠ bk := fun e => hbk.1 e.symm
  have hnd : (p :: ob :: bb :: mz :: mg :: mb :: (ab A ++ (G.set i (some w1.heap.size)).filterMap id)).Nodup := by
    have e : p :: ob :: bb :: mz :: mg :: mb :: (ab A ++ (G.set i (some w1.heap.size)).filterMap id) = (p :: ob :: bb :: mz :: mg :: mb :: (ab A ++ fa)) ++ w1.heap.size :: fb := by rw [hf1]; simp
    have e3 : p :: ob :: bb :: mz :: mg :: mb :: (ab A ++ G.filterMap id) = (p :: ob :: bb :: mz :: mg :: mb :: (ab A ++ fa)) ++ fb := by rw [hf2]; simp
    rw [e, List.perm_middle.nodup_iff, List.nodup_cons, ← e3]
    refine ⟨fun hm => ?_, hb.nd⟩
    have := hlt _ hm
    omega
  obtain ⟨W, hW⟩ : ∃ W, (wc.setCell ⟨bk, 1, none⟩ (.int .i64 ((held m.own x : Int) + 1))).setCell ⟨p, 5, none⟩ (.int .i64 ((used m.own : Int) + 1)) = W := ⟨_, rfl⟩
  have hp4 : W.heap[p]? = some (.cells #[.slice (some ⟨bb, 0, none⟩) m.own.length m.own.length, .slice (some ⟨ob, 0, none⟩) m.own.length oc, .pointer (some ⟨mz, 0, none⟩), .map (some mb), .int .i64 (m.size : Int), .int .i64 (used (m.own.set i x) : Int)] 96 (0, 0)) := by
    rw [← hW, block_setCell ((block_setOther (i := 1) hpb _).trans hc.hp), show ((used (m.own.set i x) : Nat) : Int) = (used m.own : Int) + 1 by omega]
    rfl
  have hk4 : W.heap[bk]? = some (.cells #[.int .i64 c, .int .i64 (held (m.own.set i x) x : Int)] 101 (0, 0)) := by
    rw [← hW, block_setOther (i := 5) (fun e => hpb e.symm), block_setCell hc.hk, show ((held (m.own.set i x) x : Nat) : Int) = (held m.own x : Int) + 1 by omega]
    rfl
  rw [hW] at hM3 hMc ⊢
  have n1 := hno ob (fun e => hbk.2.1 e.symm) (by omega)
  have n2 := hno bb (fun e => hbk.2.2.1 e.symm) (by omega)
  have n3 := hno mz (fun e => hbk.2.2.2.1 e.symm) (by omega)
  have n4 := hno mg (fun e => hbk.2.2.2.2.1 e.symm) (by omega)
  have hbl : bk < w.heap.size := hlt bk (by simp only [List.mem_cons, List.mem_append]; exact .inr (.inr (.inr (.inr (.inr (.inr (.inl (List.mem_map.2 ⟨_, e2, rfl⟩))))))))
  have hpl : p < w.heap.size := hlt p (by simp)
  have n5 := hno w1.heap.size (by omega) (by omega)
  have ho4 := hc.ho.mod hMc n1
  have hb4 := hc.hb.mod hMc n2
  have hm4 := hc.hm.mod hMc n3 n4
  have hg4 := hc.hg.mod hMc n5
  clear hW
  have hG4 : Bu W (m.own.set i x) (m.cont.set i (List.replicate m.size 0)) m.size (G.set i (some w1.heap.size)) i :=
    .inr ⟨w1.heap.size, x, List.replicate m.size 0, by rw [List.getElem?_set_self (by rw [hb.hG]; exact hi)], by rw [List.getElem?_set_self hi], hx0, by rw [List.getElem?_set_self (by rw [hok.cl]; exact hi)], hg4⟩
  have hPB := hb.turn hi e2 hho hp4 ho4 hb4 hm4 hk4 hG4 (fun j hj => by rw [List.getElem?_set_ne (fun e => hj e.symm)]) hM3 hnd
  refine ⟨_, ⟨⟨ob, oc, bb, mz, mg, mb, A, _, by rw [hmd]; exact hPB, rfl⟩, tak_ok hok x⟩, hM3.sub ?_, ?_⟩
  · intro k hk
    simp only [List.mem_cons, List.not_mem_nil, or_false] at hk
    simp only [List.mem_cons, List.mem_append]
    rcases hk with rfl | rfl | rfl | rfl | rfl
    · exact .inl rfl
    · exact .inr (.inl rfl)
    · exact .inr (.inr (.inl rfl))
    · exact .inr (.inr (.inr (.inr (.inl rfl))))
    · exact .inr (.inr (.inr (.inr (.inr (.inr (.inl (List.mem_map.2 ⟨_, e2, rfl⟩)))))))
  · intro k hk
    have e : p :: ob :: bb :: mz :: mg :: mb :: (ab A ++ (G.set i (some w1.heap.size)).filterMap id) = (p :: ob :: bb :: mz :: mg :: mb :: (ab A ++ fa)) ++ w1.heap.size :: fb := by rw [hf1]; simp
    have e3 : p :: ob :: bb :: mz :: mg :: mb :: (ab A ++ G.filterMap id) = (p :: ob :: bb :: mz :: mg :: mb :: (ab A ++ fa)) ++ fb := by rw [hf2]; simp
    rw [e, List.mem_append] at hk
    rw [e3]
    rcases hk with h1 | hk
    · exact .inl (List.mem_append_left _ h1)
    · rcases List.mem_cons.1 hk with h1 | h1
      · exact .inr (by omega)
      · exact .inl (List.mem_append_right _ h1)
end Po
end Go.Proofs.YtpjimmdpcpcmoaaDoor
