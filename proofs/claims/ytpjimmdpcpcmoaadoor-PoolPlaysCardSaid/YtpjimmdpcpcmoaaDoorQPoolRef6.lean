/- The model's pool (dofferref30): Close. -/
import Derived.Test.YtpjimmdpcpcmoaaDoorQPoolRef5
import Derived.Deep.RegionHeld3
namespace Go.Proofs.YtpjimmdpcpcmoaaDoor
open Go Go.RowKit Kt
namespace Po
variable {w w' : World} {z ob oc bb bc ak : Nat} {aa : Option Addr} {G : List Nat} {m : Md} {L : List Nat}
theorem a2_drop (acc : List (Int × Int)) (i : Nat) : (acc.flatMap a2).drop (i * 2) = (acc.drop i).flatMap a2 := by
  induction acc generalizing i with
  | nil => simp
  | cons q acc ih =>
    cases i with
    | zero => rfl
    | succ i =>
      rw [show (i + 1) * 2 = i * 2 + 1 + 1 by omega]
      exact ih i
theorem a2_take (acc : List (Int × Int)) (i : Nat) : (acc.flatMap a2).take (i * 2) = (acc.take i).flatMap a2 := by
  induction acc generalizing i with
  | nil => simp
  | cons q acc ih =>
    cases i with
    | zero => rfl
    | succ i =>
      rw [show (i + 1) * 2 = i * 2 + 1 + 1 by omega]
      simp only [List.flatMap_cons, List.take_succ_cons]
      rw [← ih i]
      rfl
theorem fnd_erase {acc : List (Int × Int)} (hn : (acc.map (·.1)).Nodup) {x : Int} {i : Nat} (h : fnd acc x = some i) : acc.filter (fun p => !decide (p.1 = x)) = acc.eraseIdx i := by
  induction acc generalizing i with
  | nil => cases h
  | cons q acc ih =>
    rw [List.map_cons, List.nodup_cons] at hn
    by_cases hq : q.1 = x
    · have hi : i = 0 := by
        have : fnd (q :: acc) x = some 0 := by unfold fnd; rw [List.findIdx?_cons, if_pos (by simpa using hq)]
        rw [this] at h
        exact (Option.some.inj h).symm
      subst hi
      rw [List.filter_cons_of_neg (by simp [hq])]
      simp only [List.eraseIdx_cons_zero]
      rw [List.filter_eq_self]
      intro p hp
      simp only [Bool.not_eq_true', decide_eq_false_iff_not]
      intro e
      exact hn.1 (by rw [hq, ← e]; exact List.mem_map.2 ⟨p, hp, rfl⟩)
    · have h2 : fnd (q :: acc) x = (fnd acc x).map (· + 1) := by unfold fnd; rw [List.findIdx?_cons, if_neg (by simpa using hq)]
      rw [h2, Option.map_eq_some_iff] at h
      obtain ⟨j, hj, rfl⟩ := h
      rw [List.filter_cons_of_pos (by simpa using hq), ih hn.2 hj]
      rfl
/-- 'append(append([]Account{}, xs[:i]...), xs[i+1:]...)': the two runs. -/
theorem cut2a (W : World) (g off n c i m : Nat) (xs : List (Int × Int)) (hl : xs.length = n) (hcn : n ≤ c) (hr : Rd W (some ⟨g, off, none⟩) (xs.flatMap a2)) (hi : i < n) (hm : n = m + 1) (h63 : n ≤ 1000000) :
    ∃ A a1 c1 w1 av c2 w2, (if c = i + 1 then (some ⟨g, off, none⟩ : Option Addr) else some ⟨g, off + (i + 1) * 2, none⟩) = some A ∧
      (Builtin.append_ #[56, 56] 56 #[.slice (some ⟨W.heap.size, 0, none⟩) 0 0, .slice (some ⟨g, off, none⟩) i c]).run Tryd.prog (W.alloc (.cells #[] 114)).drew = .ok (.slice a1 i c1) w1 ∧
      (Builtin.append_ #[56, 56] 56 #[.slice a1 i c1, .slice (some A) (n - (i + 1)) (c - (i + 1))]).run Tryd.prog w1 = .ok (.slice av m c2) w2 ∧
      w2.ownsRow W.heap.size 114 2 (.slice av m c2) m ((xs.eraseIdx i).flatMap a2) ∧ Below W.heap.size W w1 ∧ Below W.heap.size W w2 := by
  have own0 := World.ownsRow_made (base := W.heap.size) (e := 114) (size := 2) W #[] 0 (Nat.le_refl _) (by decide) rfl
  have hb0 := ((Below.refl W.heap.size W).alloc (Nat.le_refl _) (.cells #[] 114)).drew
  obtain ⟨A, hA, hrA⟩ : ∃ A : Addr, (if c = i + 1 then (some ⟨g, off, none⟩ : Option Addr) else some ⟨g, off + (i + 1) * 2, none⟩) = some A ∧ Rd W (some A) ((xs.drop (i + 1)).flatMap a2) := by
    by_cases h : c = i + 1
    · refine ⟨⟨g, off, none⟩, by simp [h], ?_⟩
      rw [List.drop_of_length_le (by omega)]
      exact Rd.nil _ _
    · exact ⟨⟨g, off + (i + 1) * 2, none⟩, by simp [h], by have := hr.drop ((i + 1) * 2); rw [a2_drop] at this; simpa using this⟩
  have own0d : (W.alloc (.cells #[] 114)).drew.ownsRow W.heap.size 114 2 (.slice (some ⟨W.heap.size, 0, none⟩) 0 0) 0 [] := own_keep own0 (Below.refl _ _).drew
  have htk : Rd W (some ⟨g, off, none⟩) ((xs.take i).flatMap a2) := by have := hr.take (i * 2); rw [a2_take] at this; exact this
  obtain ⟨v1, w1, hrun1, own1, gr1, _⟩ := elAcc.append W.heap.size (ty := 56) own0d i c (news := (xs.take i).flatMap a2) (by rw [a2_len, List.length_take]; congr 1; omega) (htk.keep hb0) (fun h => by cases h) (a2_one _) (by unfold maxLen; omega) (by omega) hb0.size
  have hB1 : Below W.heap.size W w1 := hb0.grown gr1 hb0.size (fun j hj => (own0d.lt j hj).1)
  simp only [Nat.zero_add] at hrun1 own1
  obtain ⟨a1, c1, rfl, _⟩ := rd_own own1
  obtain ⟨v2, w2, hrun2, own2, gr2, _⟩ := elAcc.append W.heap.size (ty := 56) own1 (n - (i + 1)) (c - (i + 1)) (by rw [a2_len, List.length_drop, hl]) (hrA.keep hB1) (fun h => by cases h) (a2_one _) (by unfold maxLen; omega) (by omega) hB1.size
  have hB2 : Below W.heap.size W w2 := hB1.grown gr2 hB1.size (fun j hj => (own1.lt j hj).1)
  rw [show i + (n - (i + 1)) = m by omega] at own2
  obtain ⟨av, c2, rfl, _⟩ := rd_own own2
  exact ⟨A, a1, c1, w1, av, c2, w2, hA, hrun1, hrun2, by rw [List.eraseIdx_eq_take_drop_succ, List.flatMap_append]; exact (by simpa using own2 : w2.ownsRow W.heap.size 114 2 (.slice av m c2) m ((xs.take i).flatMap a2 ++ (xs.drop (i + 1)).flatMap a2)), hB1, hB2⟩
set_option maxRecDepth 100000 in
set_option maxHeartbeats 2000000 in
theorem rclose_c (x : Int) (w : World) (h : RI w z L m) :
    Calls Tryd.prog 27 #[.pointer (some ⟨z, 0, none⟩), .int .i64 x] w fun e w' => ∃ L', e = .returned (.int .i64 (clsE m x)) ∧ RI w' z L' (cls m x) ∧ Mod L w w' ∧ Fr L' L w.heap.size := by
  have hf := rfind_c x w h
  have hok := h.ok
  have ha1 := h.ok.a1
  have hsame : clsE m x ≠ 0 → cls m x = m := fun he => by unfold cls; rw [if_neg he]
  have hI := fun W (hB : Below w.heap.size w W) => And.intro (h.below hB) (Mod.of_below hB L)
  have HI := Lib.hid hI
  have hh := fun W (hB : Below w.heap.size w W) => rheld_c x W (h.below hB)
  obtain ⟨R, hR⟩ : ∃ R, clsE m x = R := ⟨_, rfl⟩
  have hR2 : R = if crd m.acc x = none then 15 else if 0 < held m.own x then 16 else 0 := by rw [← hR]; rfl
  rw [hR]
  cases hc : crd m.acc x with
  | none =>
    rw [if_pos hc] at hR2
    subst hR2
    rw [hsame (by omega)]
    rw [fndI_none hc] at hf
    have HF := Lib.hid hf
    clear h hf hok hsame hI hh hR hc
    go_enter Tryd.func27, Tryd.ntmps27
    go_wp2_with (go_at_call 58; (with_reducible refine HF.out.mono ?_); rintro e w2 ⟨rfl, hb2⟩)
    go_ret
    first | exact ⟨_, rfl, (HI.out w2 hb2).1, (HI.out w2 hb2).2, Fr.refl _ _⟩ | exact ⟨rfl, _, (HI.out w2 hb2).1, (HI.out w2 hb2).2, Fr.refl _ _⟩
  | some c =>
    rw [if_neg (by rw [hc]; simp)] at hR2
    obtain ⟨k, hk, hki⟩ := fndI_some hc
    rw [hki] at hf
    obtain ⟨hkl, hk1, hk2⟩ := fnd_some h.ok.nd hk
    obtain ⟨H, hH⟩ : ∃ H, held m.own x = H := ⟨_, rfl⟩
    rw [hH] at hR2 hh
    have HF := Lib.hid hf
    have HH := Lib.hid hh
    by_cases h0 : 0 < H
    · rw [if_pos h0] at hR2
      subst hR2
      rw [hsame (by omega)]
      clear h hf hok hsame hI hh hR hc hk hki hkl hk1 hk2 hH
      go_enter Tryd.func27, Tryd.ntmps27
      go_wp2_with fail
      with_reducible refine HF.out.mono ?_
      rintro e w2 ⟨rfl, hb2⟩
      have HQ := Lib.hid (HH.out w2 hb2)
      go_wp2_with fail
      with_reducible refine HQ.out.mono ?_
      rintro e w3 ⟨rfl, rfl⟩
      go_wp2
      go_ret
      first | exact ⟨_, rfl, (HI.out _ hb2).1, (HI.out _ hb2).2, Fr.refl _ _⟩ | exact ⟨rfl, _, (HI.out _ hb2).1, (HI.out _ hb2).2, Fr.refl _ _⟩
    · rw [if_neg h0] at hR2
      subst hR2
      have hH0 : H = 0 := by omega
      subst hH0
      obtain ⟨ob, oc, bb, bc, aa, ak, G, hb, rfl⟩ := h.ex
      have hmd : cls m x = { m with acc := m.acc.eraseIdx k } := by unfold cls; rw [if_pos hR, fnd_erase h.ok.nd hk]
      have hco := cls_ok h.ok x
      obtain ⟨n, hn⟩ : ∃ n, m.acc.length = n + 1 := ⟨m.acc.length - 1, by omega⟩
      have HB := Lib.hid hb
      have HN := Lib.hid (And.intro hn (And.intro hmd hco))
      have hal := hb.al
      have hakk := hb.akk
      have hkn : k < n + 1 := by omega
      rw [hn] at hal ha1
      clear h hf hok hsame hI hh hR hc hk hki hkl hk1 hk2 hH hb hmd hco hn
      go_enter Tryd.func27, Tryd.ntmps27
      go_wp2_with fail
      with_reducible refine HF.out.mono ?_
      rintro e w2 ⟨rfl, hb2⟩
      have HQ := Lib.hid (HH.out w2 hb2)
      go_wp2_with fail
      with_reducible refine HQ.out.mono ?_
      rintro e w3 ⟨rfl, rfl⟩
      have hb3 := HB.out.mod (Mod.of_below hb2 []) (by simp)
      obtain ⟨g, off, rfl, hxx⟩ := hb3.ha.struct 2 (by intro z _; rfl) k (by rw [HN.out.1]; exact hkn) (by omega)
      obtain ⟨A, a1, c1, w3, av, c2, w4, hA, r1, r2, o4, b3, b4⟩ := cut2a w2 g off (n + 1) ak k n m.acc HN.out.1 hal hb3.ha hkn rfl (by omega)
      rw [show n + 1 - (k + 1) = n - k by omega] at r2
      have hzl := block_lt hb3.hp
      have e2 := hb3.hp
      rw [HN.out.1] at e2
      have e3 := (b3.block z hzl).trans e2
      have e4 := (b4.block z hzl).trans e2
      have k2 := cell_block e2 3
      have k2a := cell_block (block_alloc (x := .cells #[] 114) e2) 3
      have k3 := cell_block e3 3
      have k4 := cell_block e4 3
      have f4 := frozen_block e4 3
      have hle : (m.acc.eraseIdx k).length = n := by rw [List.length_eraseIdx, if_pos (by have := HN.out.1; omega)]; have := HN.out.1; omega
      have hfin := hb3.accs (acc' := m.acc.eraseIdx k) hle o4 b4
      have hsz := hb2.size
      have hall : ∃ L', RI (w4.setCell ⟨z, 3, none⟩ (.slice av n c2)) z L' (cls m x) ∧ Mod (z :: ob :: bb :: (sb (some ⟨g, off, none⟩) ++ G)) w (w4.setCell ⟨z, 3, none⟩ (.slice av n c2)) ∧ Fr L' (z :: ob :: bb :: (sb (some ⟨g, off, none⟩) ++ G)) w.heap.size :=
        ⟨_, ⟨⟨ob, oc, bb, bc, av, c2, G, by rw [HN.out.2.1]; exact hfin.1, rfl⟩, HN.out.2.2⟩, (Mod.of_below hb2 _).trans hfin.2.1 (fun k hk => .inl (by simp only [List.mem_singleton] at hk; subst hk; simp)), fun k hk => (hfin.2.2 k hk).imp id (fun h => by omega)⟩
      have HA := Lib.hid hall
      have hkc : k ≤ ak := by omega
      have hjc : k + 1 ≤ ak := by omega
      have hjn : (k : Int) + 1 ≤ (n : Int) + 1 := by omega
      have hj0 : 0 ≤ (k : Int) + 1 := by omega
      have hak63 : ak ≤ 9223372036854775807 := by unfold maxLen at hakk; exact hakk
      clear hxx hall hfin hle e2 e3 e4 hb3 HB HN HI HF b3 b4 o4 hb2 hzl HH HQ
      simp at k2 k2a k3 k4
      have hww : IntKind.i64.wrap ((k : Int) + 1) = (k : Int) + 1 := IntWalk.i64_in _ ⟨by omega, by omega⟩
      have hwt : ((k : Int) + 1).toNat = k + 1 := by omega
      go_wp2
      go_region_law (first | ((with_reducible apply step_append_run r1); rfl; rfl; rfl; rfl; rfl) | ((with_reducible apply step_append_run r2); rfl; rfl; rfl; rfl; rfl))
      all_goals
        go_wp2
        go_ret
        obtain ⟨L', f1, f2, f3⟩ := HA.out
        first | exact ⟨L', rfl, f1, f2, f3⟩ | exact ⟨rfl, L', f1, f2, f3⟩
end Po
end Go.Proofs.YtpjimmdpcpcmoaaDoor
