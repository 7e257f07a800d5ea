import Derived.Test.YtpjimmdpcpcmoaaDoorQPoolSet
/- The walks of package pool: Open, Close. Condition: the sentinels read as laid. -/
namespace Go.Proofs.YtpjimmdpcpcmoaaDoor
open Go Go.RowKit Kt
namespace Po
variable {w w' : World} {p ob oc bb mz mg mb : Nat} {A : List (Int × Int × Nat)} {G : List (Option Nat)} {m : Md} {L : List Nat}
theorem PB.len (h : PB w p ob oc bb mz mg mb A G m) (ty : TypeId) : (Builtin.len_ #[89] ty #[.map (some mb)]).run Tryd.prog w = .ok (.int .i64 (A.length : Int)) w := by
  have := h.hM.len (t := 89) Tryd.underlying89 ty
  rw [List.length_map] at this
  exact this
theorem PB.accl (h : PB w p ob oc bb mz mg mb A G m) : m.acc.length = A.length := by rw [h.hA, List.length_map]
theorem opnE_zero {m : Md} {x c : Int} (h : opnE m x c = 0) : ¬ (x < 0 ∨ c < 1 ∨ (m.own.length : Int) < c) ∧ crd m.acc x = none ∧ m.acc.length < 64 := by
  unfold opnE at h
  split at h
  · simp at h
  · rename_i h1
    split at h
    · simp at h
    · rename_i h2
      split at h
      · simp at h
      · rename_i h3
        exact ⟨h1, by simpa using h2, by omega⟩
set_option maxRecDepth 100000 in
set_option maxHeartbeats 1000000 in
theorem open_yes (x c : Int) (hx : (Lit.int .i64 x).wf = true) (w : World) (h : PI w p L m) (he : opnE m x c = 0) :
    Calls Tryd.prog 11 #[.pointer (some ⟨p, 0, none⟩), .int .i64 x, .int .i64 c] w fun e w' => ∃ L', e = .returned .nilIface ∧ PI w' p L' (opn m x c) ∧ Mod L w w' ∧ Fr L' L w.heap.size := by
  have hok := h.ok
  have hn2 := h.ok.n2
  obtain ⟨hr, hc, hal⟩ := opnE_zero he
  obtain ⟨ob, oc, bb, mz, mg, mb, A, G, hb, rfl⟩ := h.ex
  have k3 := cell_block hb.hp 3
  have k0 := cell_block hb.hp 0
  have hl := hb.look x hx
  rw [(hb.lk_iff x).2 hc] at hl
  simp only [pv, Option.isSome_none] at hl
  have hln := hb.len 3
  rw [hb.accl] at hal
  have hlt := hb.lts
  -- the account's box, and the map's new entry
  have b1 := (Below.refl w.heap.size w).alloc (Nat.le_refl _) (.cells #[.int .i64 c, .int .i64 0] 101)
  have hn1 := heap_alloc_new w (.cells #[.int .i64 c, .int .i64 0] 101)
  have hno : lk (am A) x = none := (hb.lk_iff x).2 hc
  have hb1 := hb.mod (Mod.of_below b1 []) (by simp)
  obtain ⟨w2, hrun, hM2, hg2⟩ := hb1.hM.set (t := 89) Tryd.underlying89 Tryd.underlying3 (by unfold maxLen; omega) x hx hno w.heap.size
  have hM : Mod [mb] (w.alloc (.cells #[.int .i64 c, .int .i64 0] 101)) w2 := Mod.of_grown hg2
  have hMw : Mod [mb] w w2 := ((Mod.refl [mb] w).alloc _).trans hM (fun k hk => .inl hk)
  have ap := hb.ap
  have hxx := ap.x
  simp only [List.nodup_cons, List.mem_cons, List.not_mem_nil, or_false, not_or] at hxx
  have hns : ∀ k, k ≠ mb → k ∉ [mb] := fun k hk => by simpa using hk
  have hmd : opn m x c = { m with acc := m.acc ++ [(x, c)] } := by unfold opn; rw [if_pos he]
  have hz : held m.own x = 0 := PB.held0 hok hc
  have hPB : PB w2 p ob oc bb mz mg mb (A ++ [(x, c, w.heap.size)]) G (opn m x c) := by
    rw [hmd]
    refine ⟨(hMw.block p (block_lt hb.hp) (hns _ (by omega))).trans hb.hp, hb.ho.mod hMw (hns _ (by omega)), hb.oc, hb.hb.mod hMw (hns _ (by omega)), hb.hm.mod hMw (hns _ (by omega)) (hns _ (by omega)), ?_, ?_, ?_, hb.hG, ?_, ?_⟩
    · rw [List.length_append, am, List.map_append]; exact hM2
    · show m.acc ++ [(x, c)] = ac (A ++ [(x, c, w.heap.size)])
      rw [hb.hA]
      simp [ac]
    · intro a ha
      rcases List.mem_append.1 ha with h1 | h1
      · exact (hMw.block _ (block_lt (hb.ha a h1)) (hns _ (ap.a _ (List.mem_map.2 ⟨a, h1, rfl⟩)).2.2.2.2.2.1)).trans (hb.ha a h1)
      · simp only [List.mem_singleton] at h1
        subst h1
        simp only
        rw [hz]
        exact (hM.block _ (by simp) (hns _ (by have := hb.hM.lt; omega))).trans hn1
    · intro i hi
      rcases hb.hg i hi with h1 | ⟨g, o, y, h1, h2, h3, h4, h5⟩
      · exact .inl h1
      · exact .inr ⟨g, o, y, h1, h2, h3, h4, h5.mod hMw (hns _ (ap.g g (mem_gs h1)).2.2.2.2.2.1)⟩
    · have e : p :: ob :: bb :: mz :: mg :: mb :: (ab (A ++ [(x, c, w.heap.size)]) ++ G.filterMap id) = (p :: ob :: bb :: mz :: mg :: mb :: ab A) ++ w.heap.size :: G.filterMap id := by simp [ab]
      rw [e, List.perm_middle.nodup_iff, List.nodup_cons]
      refine ⟨fun hm => ?_, by simpa using hb.nd⟩
      have := hlt w.heap.size (by simpa using hm)
      omega
  have hfin : PI w2 p (p :: ob :: bb :: mz :: mg :: mb :: (ab (A ++ [(x, c, w.heap.size)]) ++ G.filterMap id)) (opn m x c) := ⟨⟨ob, oc, bb, mz, mg, mb, _, G, hPB, rfl⟩, opn_ok hok x c⟩
  have hmod : Mod (p :: ob :: bb :: mz :: mg :: mb :: (ab A ++ G.filterMap id)) w w2 := hMw.sub (by simp)
  have hfr : Fr (p :: ob :: bb :: mz :: mg :: mb :: (ab (A ++ [(x, c, w.heap.size)]) ++ G.filterMap id)) (p :: ob :: bb :: mz :: mg :: mb :: (ab A ++ G.filterMap id)) w.heap.size := by
    intro k hk
    have e : p :: ob :: bb :: mz :: mg :: mb :: (ab (A ++ [(x, c, w.heap.size)]) ++ G.filterMap id) = (p :: ob :: bb :: mz :: mg :: mb :: ab A) ++ w.heap.size :: G.filterMap id := by simp [ab]
    rw [e, List.mem_append] at hk
    show k ∈ (p :: ob :: bb :: mz :: mg :: mb :: ab A) ++ G.filterMap id ∨ _
    rcases hk with h1 | hk
    · exact .inl (List.mem_append_left _ h1)
    · rcases List.mem_cons.1 hk with h1 | h1
      · exact .inr (by omega)
      · exact .inl (List.mem_append_right _ h1)
  have HF := Lib.hid (And.intro hfin (And.intro hmod hfr))
  obtain ⟨n, hn⟩ : ∃ n, m.own.length = n := ⟨_, rfl⟩
  obtain ⟨al, hal2⟩ : ∃ al, A.length = al := ⟨_, rfl⟩
  rw [hn] at k0 hn2 hr
  rw [hal2] at hln hal
  have r1 : ¬ x < 0 := by omega
  have r2 : ¬ c < 1 := by omega
  have r3 : ¬ (n : Int) < c := by omega
  clear hb hb1 h hx hlt b1 hn1 hno hM2 hg2 hM hMw ap hxx hns hmd hz hPB hfin hmod hfr hok he hc hn hal2 hr
  go_enter Tryd.func11, Tryd.ntmps11
  go_wp2
  go_ret
  exact ⟨rfl, _, HF.out⟩
end Po
end Go.Proofs.YtpjimmdpcpcmoaaDoor
