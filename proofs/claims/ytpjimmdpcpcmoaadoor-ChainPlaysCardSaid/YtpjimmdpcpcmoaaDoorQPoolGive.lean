import Derived.Test.YtpjimmdpcpcmoaaDoorQPoolTake
/- The walks of package pool: Give. Condition: the sentinels read as laid. -/
namespace Go.Proofs.YtpjimmdpcpcmoaaDoor
open Go Go.RowKit Kt
namespace Po
variable {w w' : World} {p ob oc bb mz mg mb : Nat} {A : List (Int × Int × Nat)} {G : List (Option Nat)} {m : Md} {L : List Nat}
/-- Where Give stands behind its stores into the rows. -/
structure GvM (W0 W : World) (p ob oc bb mz mg mb bk z n i : Nat) (own own' : List Int) (G : List (Option Nat)) (U c H : Int) : Prop where
  hp : W.heap[p]? = some (.cells #[.slice (some ⟨bb, 0, none⟩) n n, .slice (some ⟨ob, 0, none⟩) n oc, .pointer (some ⟨mz, 0, none⟩), .map (some mb), .int .i64 (z : Int), .int .i64 U] 96 (0, 0))
  ho : Rx W ob 3 oc (i64s own')
  hb : Rx W bb 54 n ((G.set i none).map (gv z))
  hk : W.heap[bk]? = some (.cells #[.int .i64 c, .int .i64 H] 101 (0, 0))
  hm : Mk.MI W mz mg (fr own)
  hM : Mod [ob, bb] W0 W
theorem fm_unset {G : List (Option Nat)} {i g : Nat} (h : G[i]? = some (some g)) : ((G.set i none).filterMap id).Sublist (G.filterMap id) := by
  obtain ⟨hl, hx⟩ := List.getElem?_eq_some_iff.1 h
  have e1 : (G.set i none).filterMap id = (G.take i).filterMap id ++ (G.drop (i + 1)).filterMap id := by
    rw [List.set_eq_take_append_cons_drop, if_pos hl, List.filterMap_append]
    rfl
  have e2 : G.filterMap id = (G.take i).filterMap id ++ g :: (G.drop (i + 1)).filterMap id := by
    conv => lhs; rw [← List.take_append_drop i G, List.filterMap_append, List.drop_eq_getElem_cons hl, hx]
    rfl
  rw [e1, e2]
  exact List.Sublist.append (List.Sublist.refl _) (List.Sublist.cons _ (List.Sublist.refl _))
set_option maxHeartbeats 1000000 in
/-- The state behind Give. -/
theorem give_fin (hb : PB w p ob oc bb mz mg mb A G m) (hok : Ok m) {x c : Int} {i bk g : Nat} (he : hldE m x i = 0) (e2 : (x, c, bk) ∈ A) (hi : i < m.own.length) (hoi : m.own[i] = x) (hGi : G[i]? = some (some g)) (hx0 : 0 ≤ x)
    {W : World} (hM3 : Mod [p, ob, bb, mg, bk] w W)
    (hp4 : W.heap[p]? = some (.cells #[.slice (some ⟨bb, 0, none⟩) m.own.length m.own.length, .slice (some ⟨ob, 0, none⟩) m.own.length oc, .pointer (some ⟨mz, 0, none⟩), .map (some mb), .int .i64 (m.size : Int), .int .i64 ((used m.own : Int) - 1)] 96 (0, 0)))
    (ho4 : Rx W ob 3 oc (i64s (m.own.set i (-1)))) (hb4 : Rx W bb 54 m.own.length ((G.set i none).map (gv m.size))) (hm4 : Mk.MI W mz mg (fr (m.own.set i (-1))))
    (hk4 : W.heap[bk]? = some (.cells #[.int .i64 c, .int .i64 ((held m.own x : Int) - 1)] 101 (0, 0))) :
    ∃ L', PI W p L' (giv m x i) ∧ Mod (p :: ob :: bb :: mz :: mg :: mb :: (ab A ++ G.filterMap id)) w W ∧ Fr L' (p :: ob :: bb :: mz :: mg :: mb :: (ab A ++ G.filterMap id)) w.heap.size := by
  have hu := used_set hi (-1)
  rw [hoi, if_pos hx0, if_neg (by omega)] at hu
  have hh := held_set hi (-1) x
  rw [hoi, if_pos ⟨rfl, hx0⟩, if_neg (by omega)] at hh
  have hho : ∀ y, y ≠ x → held (m.own.set i (-1)) y = held m.own y := fun y hy => by
    have := held_set hi (-1) y
    rw [hoi, if_neg (by intro h; exact hy h.1.symm), if_neg (by omega)] at this
    omega
  have hmd : giv m x i = { m with own := m.own.set i (-1), cont := m.cont } := by unfold giv; rw [if_pos he, Int.toNat_natCast]
  have hsl : (p :: ob :: bb :: mz :: mg :: mb :: (ab A ++ (G.set i none).filterMap id)).Sublist (p :: ob :: bb :: mz :: mg :: mb :: (ab A ++ G.filterMap id)) := by
    refine List.Sublist.cons_cons _ (List.Sublist.cons_cons _ (List.Sublist.cons_cons _ (List.Sublist.cons_cons _ (List.Sublist.cons_cons _ (List.Sublist.cons_cons _ ?_)))))
    exact List.Sublist.append (List.Sublist.refl _) (fm_unset hGi)
  rw [show (used m.own : Int) - 1 = ((used (m.own.set i (-1)) : Nat) : Int) by omega] at hp4
  rw [show (held m.own x : Int) - 1 = ((held (m.own.set i (-1)) x : Nat) : Int) by omega] at hk4
  have hG4 : Bu W (m.own.set i (-1)) m.cont m.size (G.set i none) i :=
    .inl ⟨by rw [List.getElem?_set_self (by rw [hb.hG]; exact hi)], -1, by rw [List.getElem?_set_self hi], by omega⟩
  have hPB := hb.turn hi e2 hho hp4 ho4 hb4 hm4 hk4 hG4 (fun j _ => rfl) hM3 (hb.nd.sublist hsl)
  refine ⟨_, ⟨⟨ob, oc, bb, mz, mg, mb, A, _, by rw [hmd]; exact hPB, rfl⟩, giv_ok hok x i⟩, hM3.sub ?_, fun k hk => .inl (hsl.subset hk)⟩
  intro k hk
  simp only [List.mem_cons, List.not_mem_nil, or_false] at hk
  simp only [List.mem_cons, List.mem_append]
  rcases hk with rfl | rfl | rfl | rfl | rfl
  · exact .inl rfl
  · exact .inr (.inl rfl)
  · exact .inr (.inr (.inl rfl))
  · exact .inr (.inr (.inr (.inr (.inl rfl))))
  · exact .inr (.inr (.inr (.inr (.inr (.inr (.inl (List.mem_map.2 ⟨_, e2, rfl⟩)))))))
end Po
end Go.Proofs.YtpjimmdpcpcmoaaDoor
