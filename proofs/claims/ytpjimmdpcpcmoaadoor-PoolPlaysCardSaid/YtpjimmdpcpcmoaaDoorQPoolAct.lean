/- The walks of package pool: Open, Close. Condition: the sentinels read as laid. -/
import Derived.Test.YtpjimmdpcpcmoaaDoorQPoolSet
namespace Go.Proofs.YtpjimmdpcpcmoaaDoor
open Go Go.RowKit Kt
namespace Po
variable {w w' : World} {p ob oc bb mz mg mb : Nat} {A : List (Int × Int × Nat)} {G : List (Option Nat)} {m : Md} {L : List Nat}
theorem PB.len (h : PB w p ob oc bb mz mg mb A G m) (ty : TypeId) : (Builtin.len_ #[89] ty #[.map (some mb)]).run Tryd.prog w = .ok (.int .i64 (A.length : Int)) w := by
  have := h.hM.len (t := 89) Tryd.underlying89 ty
  rw [List.length_map] at this
  exact this
theorem PB.accl (h : PB w p ob oc bb mz mg mb A G m) : m.acc.length = A.length := by rw [h.hA, List.length_map]
set_option maxRecDepth 100000 in
set_option maxHeartbeats 1000000 in
theorem open_no (E : Nat → Addr) (x c : Int) (hx : (Lit.int .i64 x).wf = true) (w : World) (h : PI w p L m) (hs : Sent 169 w E Er.egs) (he : opnE m x c ≠ 0) :
    Calls Tryd.prog 11 #[.pointer (some ⟨p, 0, none⟩), .int .i64 x, .int .i64 c] w fun e w' => e = .returned (ee E (opnE m x c)) ∧ w = w' := by
  have hn2 := h.ok.n2
  have ha1 := h.ok.a1
  obtain ⟨ob, oc, bb, mz, mg, mb, A, G, hb, rfl⟩ := h.ex
  have k3 := cell_block hb.hp 3
  have k0 := cell_block hb.hp 0
  have hl := hb.look x hx
  have hln := hb.len 3
  have hal := hb.accl
  have g1 : w.cell? ⟨0, 0, none⟩ = some (ee E 1) := sentc hs 1 (by decide) (by decide)
  have g6 : w.cell? ⟨1, 0, none⟩ = some (ee E 6) := sentc hs 6 (by decide) (by decide)
  have g13 : w.cell? ⟨2, 0, none⟩ = some (ee E 13) := sentc hs 13 (by decide) (by decide)
  obtain ⟨e1, h1⟩ : ∃ v, ee E 1 = v := ⟨_, rfl⟩
  obtain ⟨e6, h6⟩ : ∃ v, ee E 6 = v := ⟨_, rfl⟩
  obtain ⟨e13, h13⟩ : ∃ v, ee E 13 = v := ⟨_, rfl⟩
  rw [h1] at g1
  rw [h6] at g6
  rw [h13] at g13
  have H1 := Lib.hid h1
  have H6 := Lib.hid h6
  have H13 := Lib.hid h13
  have hiff := hb.lk_iff x
  obtain ⟨n, hn⟩ : ∃ n, m.own.length = n := ⟨_, rfl⟩
  obtain ⟨al, hal2⟩ : ∃ al, A.length = al := ⟨_, rfl⟩
  obtain ⟨lx, hlx⟩ : ∃ lx, lk (am A) x = lx := ⟨_, rfl⟩
  rw [hlx] at hl hiff
  rw [hal2] at hln hal
  by_cases hr : x < 0 ∨ c < 1 ∨ (n : Int) < c
  · have hv : opnE m x c = 1 := by unfold opnE; rw [hn, if_pos hr]
    rw [hv, H1.out]
    rw [hn] at k0 hn2
    clear hb h hs hx h1 h6 h13 hv he hiff hlx hal hal2 hn
    rcases Decidable.em (x < 0) with r1 | r1
    · clear hr
      go_enter Tryd.func11, Tryd.ntmps11
      go_wp2
      go_ret
      exact ⟨rfl, rfl⟩
    · rcases Decidable.em (c < 1) with r2 | r2
      · clear hr
        go_enter Tryd.func11, Tryd.ntmps11
        go_wp2
        go_ret
        exact ⟨rfl, rfl⟩
      · have r3 : (n : Int) < c := by omega
        clear hr
        go_enter Tryd.func11, Tryd.ntmps11
        go_wp2
        go_ret
        exact ⟨rfl, rfl⟩
  · have r1 : ¬ x < 0 := by omega
    have r2 : ¬ c < 1 := by omega
    have r3 : ¬ (n : Int) < c := by omega
    cases hc : (crd m.acc x).isSome with
    | true =>
      have hv : opnE m x c = 6 := by unfold opnE; rw [hn, if_neg hr, if_pos hc]
      rw [hv, H6.out]
      have hsm : lx.isSome = true := by
        cases lx with
        | none => rw [hiff.1 rfl] at hc; cases hc
        | some b => rfl
      rw [hsm] at hl
      rw [hn] at k0 hn2
      clear hb h hs hx h1 h6 h13 hv he hiff hlx hal hal2 hn hr hc hsm
      go_enter Tryd.func11, Tryd.ntmps11
      go_wp2
      go_ret
      exact ⟨rfl, rfl⟩
    | false =>
      have hfull : 64 ≤ m.acc.length := by
        rcases Decidable.em (64 ≤ m.acc.length) with h2 | h2
        · exact h2
        · exfalso; apply he; unfold opnE; rw [hn, if_neg hr, if_neg (by rw [hc]; simp), if_neg h2]
      have hv : opnE m x c = 13 := by unfold opnE; rw [hn, if_neg hr, if_neg (by rw [hc]; simp), if_pos hfull]
      rw [hv, H13.out]
      have hsm : lx.isSome = false := by
        cases lx with
        | none => rfl
        | some b =>
          have : crd m.acc x = none := by simpa using hc
          rw [← hiff] at this
          cases this
      rw [hsm] at hl
      rw [hn] at k0 hn2
      rw [hal] at hfull ha1
      clear hb h hs hx h1 h6 h13 hv he hiff hlx hal hal2 hn hr hc hsm
      go_enter Tryd.func11, Tryd.ntmps11
      go_wp2
      go_ret
      exact ⟨rfl, rfl⟩
theorem opnE_zero {m : Md} {x c : Int} (h : opnE m x c = 0) : ¬ (x < 0 ∨ c < 1 ∨ (m.own.length : Int) < c) ∧ crd m.acc x = none ∧ m.acc.length < 64 := by
  unfold opnE at h
  split at h
  · simp at h
  · rename_i h1
    split at h
    · simp at h
    · rename_i h2
      split at h
      · simp at h
      · rename_i h3
        exact ⟨h1, by simpa using h2, by omega⟩
set_option maxRecDepth 100000 in
set_option maxHeartbeats 1000000 in
theorem open_yes (x c : Int) (hx : (Lit.int .i64 x).wf = true) (w : World) (h : PI w p L m) (he : opnE m x c = 0) :
    Calls Tryd.prog 11 #[.pointer (some ⟨p, 0, none⟩), .int .i64 x, .int .i64 c] w fun e w' => ∃ L', e = .returned .nilIface ∧ PI w' p L' (opn m x c) ∧ Mod L w w' ∧ Fr L' L w.heap.size := by
  have hok := h.ok
  have hn2 := h.ok.n2
  obtain ⟨hr, hc, hal⟩ := opnE_zero he
  obtain ⟨ob, oc, bb, mz, mg, mb, A, G, hb, rfl⟩ := h.ex
  have k3 := cell_block hb.hp 3
  have k0 := cell_block hb.hp 0
  have hl := hb.look x hx
  rw [(hb.lk_iff x).2 hc] at hl
  simp only [pv, Option.isSome_none] at hl
  have hln := hb.len 3
  rw [hb.accl] at hal
  have hlt := hb.lts
  -- the account's box, and the map's new entry
  have b1 := (Below.refl w.heap.size w).alloc (Nat.le_refl _) (.cells #[.int .i64 c, .int .i64 0] 101)
  have hn1 := heap_alloc_new w (.cells #[.int .i64 c, .int .i64 0] 101)
  have hno : lk (am A) x = none := (hb.lk_iff x).2 hc
  have hb1 := hb.mod (Mod.of_below b1 []) (by simp)
  obtain ⟨w2, hrun, hM2, hg2⟩ := hb1.hM.set (t := 89) Tryd.underlying89 Tryd.underlying3 (by unfold maxLen; omega) x hx hno w.heap.size
  have hM : Mod [mb] (w.alloc (.cells #[.int .i64 c, .int .i64 0] 101)) w2 := Mod.of_grown hg2
  have hMw : Mod [mb] w w2 := ((Mod.refl [mb] w).alloc _).trans hM (fun k hk => .inl hk)
  have ap := hb.ap
  have hxx := ap.x
  simp only [List.nodup_cons, List.mem_cons, List.not_mem_nil, or_false, not_or] at hxx
  have hns : ∀ k, k ≠ mb → k ∉ [mb] := fun k hk => by simpa using hk
  have hmd : opn m x c = { m with acc := m.acc ++ [(x, c)] } := by unfold opn; rw [if_pos he]
  have hz : held m.own x = 0 := PB.held0 hok hc
  have hPB : PB w2 p ob oc bb mz mg mb (A ++ [(x, c, w.heap.size)]) G (opn m x c) := by
    rw [hmd]
    refine ⟨(hMw.block p (block_lt hb.hp) (hns _ (by omega))).trans hb.hp, hb.ho.mod hMw (hns _ (by omega)), hb.oc, hb.hb.mod hMw (hns _ (by omega)), hb.hm.mod hMw (hns _ (by omega)) (hns _ (by omega)), ?_, ?_, ?_, hb.hG, ?_, ?_⟩
    · rw [List.length_append, am, List.map_append]; exact hM2
    · show m.acc ++ [(x, c)] = ac (A ++ [(x, c, w.heap.size)])
      rw [hb.hA]
      simp [ac]
    · intro a ha
      rcases List.mem_append.1 ha with h1 | h1
      · exact (hMw.block _ (block_lt (hb.ha a h1)) (hns _ (ap.a _ (List.mem_map.2 ⟨a, h1, rfl⟩)).2.2.2.2.2.1)).trans (hb.ha a h1)
      · simp only [List.mem_singleton] at h1
        subst h1
        simp only
        rw [hz]
        exact (hM.block _ (by simp) (hns _ (by have := hb.hM.lt; omega))).trans hn1
    · intro i hi
      rcases hb.hg i hi with h1 | ⟨g, o, y, h1, h2, h3, h4, h5⟩
      · exact .inl h1
      · exact .inr ⟨g, o, y, h1, h2, h3, h4, h5.mod hMw (hns _ (ap.g g (mem_gs h1)).2.2.2.2.2.1)⟩
    · have e : p :: ob :: bb :: mz :: mg :: mb :: (ab (A ++ [(x, c, w.heap.size)]) ++ G.filterMap id) = (p :: ob :: bb :: mz :: mg :: mb :: ab A) ++ w.heap.size :: G.filterMap id := by simp [ab]
      rw [e, List.perm_middle.nodup_iff, List.nodup_cons]
      refine ⟨fun hm => ?_, by simpa using hb.nd⟩
      have := hlt w.heap.size (by simpa using hm)
      omega
  have hfin : PI w2 p (p :: ob :: bb :: mz :: mg :: mb :: (ab (A ++ [(x, c, w.heap.size)]) ++ G.filterMap id)) (opn m x c) := ⟨⟨ob, oc, bb, mz, mg, mb, _, G, hPB, rfl⟩, opn_ok hok x c⟩
  have hmod : Mod (p :: ob :: bb :: mz :: mg :: mb :: (ab A ++ G.filterMap id)) w w2 := hMw.sub (by simp)
  have hfr : Fr (p :: ob :: bb :: mz :: mg :: mb :: (ab (A ++ [(x, c, w.heap.size)]) ++ G.filterMap id)) (p :: ob :: bb :: mz :: mg :: mb :: (ab A ++ G.filterMap id)) w.heap.size := by
    intro k hk
    have e : p :: ob :: bb :: mz :: mg :: mb :: (ab (A ++ [(x, c, w.heap.size)]) ++ G.filterMap id) = (p :: ob :: bb :: mz :: mg :: mb :: ab A) ++ w.heap.size :: G.filterMap id := by simp [ab]
    rw [e, List.mem_append] at hk
    show k ∈ (p :: ob :: bb :: mz :: mg :: mb :: ab A) ++ G.filterMap id ∨ _
    rcases hk with h1 | hk
    · exact .inl (List.mem_append_left _ h1)
    · rcases List.mem_cons.1 hk with h1 | h1
      · exact .inr (by omega)
      · exact .inl (List.mem_append_right _ h1)
  have HF := Lib.hid (And.intro hfin (And.intro hmod hfr))
  obtain ⟨n, hn⟩ : ∃ n, m.own.length = n := ⟨_, rfl⟩
  obtain ⟨al, hal2⟩ : ∃ al, A.length = al := ⟨_, rfl⟩
  rw [hn] at k0 hn2 hr
  rw [hal2] at hln hal
  have r1 : ¬ x < 0 := by omega
  have r2 : ¬ c < 1 := by omega
  have r3 : ¬ (n : Int) < c := by omega
  clear hb hb1 h hx hlt b1 hn1 hno hM2 hg2 hM hMw ap hxx hns hmd hz hPB hfin hmod hfr hok he hc hn hal2 hr
  go_enter Tryd.func11, Tryd.ntmps11
  go_wp2
  go_ret
  exact ⟨rfl, _, HF.out⟩
theorem clsE_zero {m : Md} {x : Int} (h : clsE m x = 0) : ∃ c, crd m.acc x = some c ∧ held m.own x = 0 := by
  unfold clsE at h
  split at h
  · simp at h
  · rename_i h1
    split at h
    · simp at h
    · rename_i h2
      obtain ⟨c, hc⟩ := Option.ne_none_iff_exists'.1 h1
      exact ⟨c, hc, by omega⟩
set_option maxRecDepth 100000 in
set_option maxHeartbeats 1000000 in
theorem close_no (E : Nat → Addr) (x : Int) (hx : (Lit.int .i64 x).wf = true) (w : World) (h : PI w p L m) (hs : Sent 169 w E Er.egs) (he : clsE m x ≠ 0) :
    Calls Tryd.prog 12 #[.pointer (some ⟨p, 0, none⟩), .int .i64 x] w fun e w' => e = .returned (ee E (clsE m x)) ∧ w = w' := by
  obtain ⟨ob, oc, bb, mz, mg, mb, A, G, hb, rfl⟩ := h.ex
  have k3 := cell_block hb.hp 3
  have hl := hb.look x hx
  have g15 : w.cell? ⟨3, 0, none⟩ = some (ee E 15) := sentc hs 15 (by decide) (by decide)
  have g16 : w.cell? ⟨4, 0, none⟩ = some (ee E 16) := sentc hs 16 (by decide) (by decide)
  obtain ⟨e15, h15⟩ : ∃ v, ee E 15 = v := ⟨_, rfl⟩
  obtain ⟨e16, h16⟩ : ∃ v, ee E 16 = v := ⟨_, rfl⟩
  rw [h15] at g15
  rw [h16] at g16
  have H15 := Lib.hid h15
  have H16 := Lib.hid h16
  clear h15 h16 hs
  cases hc : crd m.acc x with
  | none =>
    have hv : clsE m x = 15 := by unfold clsE; rw [if_pos hc]
    rw [hv, H15.out]
    rw [(hb.lk_iff x).2 hc] at hl
    simp only [pv, Option.isSome_none] at hl
    clear hb h hc hx hv he
    go_enter Tryd.func12, Tryd.ntmps12
    go_wp2
    go_ret
    exact ⟨rfl, rfl⟩
  | some c =>
    obtain ⟨bk, e1, e2⟩ := hb.acct hc
    have hp : 0 < held m.own x := by
      rcases Decidable.em (0 < held m.own x) with h2 | h2
      · exact h2
      · exfalso; apply he; unfold clsE; rw [if_neg (by rw [hc]; simp), if_neg h2]
    have hv : clsE m x = 16 := by unfold clsE; rw [if_neg (by rw [hc]; simp), if_pos hp]
    rw [hv, H16.out]
    rw [e1] at hl
    simp only [pv, Option.isSome_some] at hl
    have k1 := cell_block (hb.ha _ e2) 1
    simp only at k1
    obtain ⟨H, hH⟩ : ∃ H : Nat, held m.own x = H := ⟨_, rfl⟩
    rw [hH] at k1 hp
    have HA := Lib.hid (At.load_c bk 1 H w k1)
    have hd : decide ((0 : Int) < (H : Int)) = true := by simp; omega
    clear hb h hc hx e1 e2 hH hv he
    go_enter Tryd.func12, Tryd.ntmps12
    go_wp2_with (go_at_call 48; (with_reducible refine HA.out.mono ?_); rintro e w2 ⟨rfl, rfl⟩)
    go_ret
    exact ⟨rfl, rfl⟩
set_option maxRecDepth 100000 in
set_option maxHeartbeats 1000000 in
theorem close_yes (x : Int) (hx : (Lit.int .i64 x).wf = true) (w : World) (h : PI w p L m) (he : clsE m x = 0) :
    Calls Tryd.prog 12 #[.pointer (some ⟨p, 0, none⟩), .int .i64 x] w fun e w' => ∃ L', e = .returned .nilIface ∧ PI w' p L' (cls m x) ∧ Mod L w w' ∧ Fr L' L w.heap.size := by
  have hok := h.ok
  obtain ⟨c, hc, hh⟩ := clsE_zero he
  obtain ⟨ob, oc, bb, mz, mg, mb, A, G, hb, rfl⟩ := h.ex
  have k3 := cell_block hb.hp 3
  have hl := hb.look x hx
  obtain ⟨bk, e1, e2⟩ := hb.acct hc
  have hyes : (lk (am A) x).isSome = true := by rw [e1]; rfl
  rw [e1] at hl
  simp only [pv, Option.isSome_some] at hl
  have k1 := cell_block (hb.ha _ e2) 1
  simp only at k1
  rw [hh] at k1
  have HA := Lib.hid (At.load_c bk 1 0 w k1)
  obtain ⟨w2, hrun, hM2, hg2⟩ := hb.hM.del (t := 89) Tryd.underlying89 Tryd.underlying3 x hx hyes 0
  have hMw : Mod [mb] w w2 := Mod.of_grown hg2
  have ap := hb.ap
  have hxx := ap.x
  simp only [List.nodup_cons, List.mem_cons, List.not_mem_nil, or_false, not_or] at hxx
  have hns : ∀ k, k ≠ mb → k ∉ [mb] := fun k hk => by simpa using hk
  have hmd : cls m x = { m with acc := m.acc.filter fun p => !decide (p.1 = x) } := by unfold cls; rw [if_pos he]
  obtain ⟨A', hA'⟩ : ∃ A', A.filter (fun a => !decide (a.1 = x)) = A' := ⟨_, rfl⟩
  have hsub : A'.Sublist A := by rw [← hA']; exact List.filter_sublist
  have hsl : (p :: ob :: bb :: mz :: mg :: mb :: (ab A' ++ G.filterMap id)).Sublist (p :: ob :: bb :: mz :: mg :: mb :: (ab A ++ G.filterMap id)) := by
    refine List.Sublist.cons_cons _ (List.Sublist.cons_cons _ (List.Sublist.cons_cons _ (List.Sublist.cons_cons _ (List.Sublist.cons_cons _ (List.Sublist.cons_cons _ ?_)))))
    exact List.Sublist.append (List.Sublist.map _ hsub) (List.Sublist.refl _)
  have hPB : PB w2 p ob oc bb mz mg mb A' G (cls m x) := by
    rw [hmd]
    refine ⟨(hMw.block p (block_lt hb.hp) (hns _ (by omega))).trans hb.hp, hb.ho.mod hMw (hns _ (by omega)), hb.oc, hb.hb.mod hMw (hns _ (by omega)), hb.hm.mod hMw (hns _ (by omega)) (hns _ (by omega)), ?_, ?_, ?_, hb.hG, ?_, hb.nd.sublist hsl⟩
    · have h1 := hM2.tight
      have h2 : (am A).filter (fun p => !decide (p.1 = x)) = am A' := by rw [← hA', am, am, List.filter_map]; rfl
      rw [h2, List.length_map] at h1
      exact h1
    · show m.acc.filter _ = ac A'
      rw [hb.hA, ← hA', ac, ac, List.filter_map]
      rfl
    · intro a ha
      have ha2 := hsub.subset ha
      exact (hMw.block _ (block_lt (hb.ha a ha2)) (hns _ (ap.a _ (List.mem_map.2 ⟨a, ha2, rfl⟩)).2.2.2.2.2.1)).trans (hb.ha a ha2)
    · intro i hi
      rcases hb.hg i hi with h1 | ⟨g, o, y, h1, h2, h3, h4, h5⟩
      · exact .inl h1
      · exact .inr ⟨g, o, y, h1, h2, h3, h4, h5.mod hMw (hns _ (ap.g g (mem_gs h1)).2.2.2.2.2.1)⟩
  have hfin : PI w2 p (p :: ob :: bb :: mz :: mg :: mb :: (ab A' ++ G.filterMap id)) (cls m x) := ⟨⟨ob, oc, bb, mz, mg, mb, _, G, hPB, rfl⟩, cls_ok hok x⟩
  have hmod : Mod (p :: ob :: bb :: mz :: mg :: mb :: (ab A ++ G.filterMap id)) w w2 := hMw.sub (by simp)
  have hfr : Fr (p :: ob :: bb :: mz :: mg :: mb :: (ab A' ++ G.filterMap id)) (p :: ob :: bb :: mz :: mg :: mb :: (ab A ++ G.filterMap id)) w.heap.size := fun k hk => .inl (hsl.subset hk)
  have HF := Lib.hid (And.intro hfin (And.intro hmod hfr))
  clear hb h hx hM2 hg2 hMw ap hxx hns hmd hPB hfin hmod hfr hok he hc hh e1 e2 hyes hA' hsub hsl
  go_enter Tryd.func12, Tryd.ntmps12
  go_wp2_with (go_at_call 48; (with_reducible refine HA.out.mono ?_); rintro e w2 ⟨rfl, rfl⟩)
  go_ret
  exact ⟨_, rfl, HF.out⟩
end Po
end Go.Proofs.YtpjimmdpcpcmoaaDoor
