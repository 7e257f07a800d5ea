import Derived.Test.YtoeeddfinmfnoaaDoorQTreeBnd
import Derived.Test.YtoeeddfinmfnoaaDoorQTreeRight
import Derived.Test.YtoeeddfinmfnoaaDoorQTreeTx
import Derived.Test.YtoeeddfinmfnoaaDoorQSets7
/- tree.same, slices.EqualFunc over nodes, tree.Same. -/
namespace Go.Proofs.YtoeeddfinmfnoaaDoor
namespace Kt
end Kt
namespace St
end St
namespace Sp
end Sp
namespace Bk
end Bk
open Go Go.RowKit Kt St Sp Bk
namespace Tr
mutual
/-- Are two trees the same? -/
def sm : Nd → Nd → Bool
  | .mk k s mn mx t _ _ ks, .mk k' s' mn' mx' t' _ _ ks' => (decide (k = k') && decide (s = s') && decide (mn = mn') && decide (mx = mx') && decide (t = t')) && sms ks ks'
def sms : List Nd → List Nd → Bool
  | [], [] => true
  | n :: r, m :: q => sm n m && sms r q
  | [], _ :: _ => false
  | _ :: _, [] => false
end
mutual
theorem sm_iff : ∀ (a b : Nd), sm a b = true ↔ er a = er b
  | .mk k s mn mx t a c ks, .mk k' s' mn' mx' t' a' c' ks' => by
    simp only [sm, er, Bool.and_eq_true, decide_eq_true_eq, Nd.mk.injEq, sms_iff ks ks', true_and]
    constructor
    · rintro ⟨⟨⟨⟨⟨h1, h2⟩, h3⟩, h4⟩, h5⟩, h6⟩
      exact ⟨h1, h2, h3, h4, h5, h6⟩
    · rintro ⟨h1, h2, h3, h4, h5, h6⟩
      exact ⟨⟨⟨⟨⟨h1, h2⟩, h3⟩, h4⟩, h5⟩, h6⟩
theorem sms_iff : ∀ (a b : List Nd), sms a b = true ↔ ers a = ers b
  | [], [] => by simp [sms, ers]
  | n :: r, m :: q => by simp only [sms, ers, Bool.and_eq_true, List.cons.injEq, sm_iff n m, sms_iff r q]
  | [], _ :: _ => by simp [sms, ers]
  | _ :: _, [] => by simp [sms, ers]
end
theorem sms_len : ∀ {a b : List Nd}, sms a b = true → a.length = b.length
  | [], [], _ => rfl
  | n :: r, m :: q, h => by
    simp only [sms, Bool.and_eq_true] at h
    simp [sms_len h.2]
  | [], _ :: _, h => by simp [sms] at h
  | _ :: _, [], h => by simp [sms] at h
/-- What same answers. -/
def SmP (a b : Nd) (w : World) (e : Ending) (w' : World) : Prop := e = .returned (.bool (sm a b)) ∧ Below w.heap.size w w'
theorem sms_take : ∀ (a b : List Nd) (j : Nat) (h1 : j < a.length) (h2 : j < b.length), sms (a.take (j + 1)) (b.take (j + 1)) = (sms (a.take j) (b.take j) && sm a[j] b[j])
  | n :: r, m :: q, 0, _, _ => by simp [sms]
  | n :: r, m :: q, j + 1, h1, h2 => by
    simp only [List.take_succ_cons, sms, List.getElem_cons_succ]
    rw [sms_take r q j (by simpa using h1) (by simpa using h2), Bool.and_assoc]
theorem sms_bad : ∀ {a b : List Nd} (j : Nat) (h1 : j < a.length) (h2 : j < b.length), sm a[j] b[j] = false → sms a b = false
  | n :: r, m :: q, 0, _, _, h => by simp only [List.getElem_cons_zero] at h; simp [sms, h]
  | n :: r, m :: q, j + 1, h1, h2, h => by
    simp only [List.getElem_cons_succ] at h
    simp only [sms, sms_bad j (by simpa using h1) (by simpa using h2) h, Bool.and_false]
set_option maxRecDepth 100000 in
set_option maxHeartbeats 8000000 in
/-- slices.EqualFunc over nodes, with same. -/
theorem eqf_c (ka : Option Addr) (ax : List Nd) (ca : Nat) (kb : Option Addr) (bx : List Nd) (cb : Nat) (w : World) (ha : Rd w ka (ax.flatMap cells)) (hb : Rd w kb (bx.flatMap cells)) (hsa : ∀ n ∈ ax, n.set.length = 4) (hsb : ∀ n ∈ bx, n.set.length = 4) (hla : ax.length ≤ 9223372036854775807) (hlb : bx.length ≤ 9223372036854775807)
    (hx : ∀ n ∈ ax, ∀ m ∈ bx, ∀ W, Below w.heap.size w W → Calls Tryd.prog 60 #[nv n, nv m] W (SmP n m W)) :
    Calls Tryd.prog 85 #[.slice ka ax.length ca, .slice kb bx.length cb, .func (.func 60) #[] #[]] w fun e w' => e = .returned (.bool (sms ax bx)) ∧ Below w.heap.size w w' := by
  obtain ⟨na, hna⟩ : ∃ na, ax.length = na := ⟨_, rfl⟩
  obtain ⟨nb, hnb⟩ : ∃ nb, bx.length = nb := ⟨_, rfl⟩
  rw [hna] at hla ⊢
  rw [hnb] at hlb ⊢
  have HA := Lib.hid (And.intro ha (And.intro hsa hna))
  have HBb := Lib.hid (And.intro hb (And.intro hsb hnb))
  have HX := Lib.hid hx
  by_cases hne : na = nb
  · subst hne
    clear ha hb hsa hsb hna hnb hx
    go_enter Tryd.func85, Tryd.ntmps85
    go_wp2_with fail
    go_loopw [17] (fun i W => ∃ j : Nat, j ≤ na ∧ i = .int .i64 (j : Int) ∧ sms (ax.take j) (bx.take j) = true ∧ Below w.heap.size w W) (fun i _ => na - (intOf i).toNat)
    case atStart => exact ⟨0, Nat.zero_le _, rfl, rfl, Below.refl _ _⟩
    case round =>
      obtain ⟨j, hj, rfl, hall, hbw⟩ := hrel
      by_cases hjl : j < na
      · have hja : j < ax.length := by rw [HA.out.2.2]; exact hjl
        have hjb : j < bx.length := by rw [HBb.out.2.2]; exact hjl
        obtain ⟨ba, oa, rfl, hcs⟩ := kid_at (HA.out.1.keep hbw) HA.out.2.1 j hja
        have hia : ax[j] ∈ ax := List.getElem_mem hja
        have hib : bx[j] ∈ bx := List.getElem_mem hjb
        have hxk := HX.out _ hia _ hib
        have hst := sms_take ax bx j hja hjb
        rw [hall, Bool.true_and] at hst
        have hbad := sms_bad j hja hjb
        have hs1 := HA.out.2.1 _ hia
        have hs2 := HBb.out.2.1 _ hib
        obtain ⟨kx, hkx⟩ : ∃ kx, ax[j] = kx := ⟨_, rfl⟩
        obtain ⟨ky, hky⟩ : ∃ ky, bx[j] = ky := ⟨_, rfl⟩
        rw [hkx] at hcs hxk hst hbad hs1
        rw [hky] at hxk hst hbad hs2
        have hxk2 : ∀ W, Below w.heap.size w W → Calls Tryd.prog 60 #[nv kx, nv ky] W fun e w' => e = .returned (.bool (sm kx ky)) ∧ Below W.heap.size W w' := hxk
        obtain ⟨o, ho⟩ : ∃ o, sm kx ky = o := ⟨_, rfl⟩
        rw [ho] at hxk2 hst hbad
        obtain ⟨y0, y1, y2, y3, hys⟩ := four' hs1
        obtain ⟨v0, v1, v2, v3, hvs⟩ := four' hs2
        obtain ⟨kk, ksx, kmn, kmx, kt, kaa, kc, kks⟩ := kx
        obtain ⟨lk, lsx, lmn, lmx, lt, laa, lc, lks⟩ := ky
        simp only [Nd.set] at hys hvs
        subst hys hvs
        have q0 := hcs 0 _ rfl (by omega)
        have q1 := hcs 1 _ rfl (by omega)
        have q2 := hcs 2 _ rfl (by omega)
        have q3 := hcs 3 _ rfl (by omega)
        have q4 := hcs 4 _ rfl (by omega)
        have q5 := hcs 5 _ rfl (by omega)
        have q6 := hcs 6 _ rfl (by omega)
        have q7 := hcs 7 _ rfl (by omega)
        have q8 := hcs 8 _ rfl (by omega)
        have bx1 := hbw.alloc hbw.size (.cells #[.int .i64 kk, .int .u64 (y0 : Int), .int .u64 (y1 : Int), .int .u64 (y2 : Int), .int .u64 (y3 : Int), .slice kaa kks.length kc, .int .i64 kmn, .int .i64 kmx, .string (Str kt)] 27)
        obtain ⟨bb, ob, rfl, hct⟩ := kid_at (HBb.out.1.keep bx1) HBb.out.2.1 j hjb
        rw [hky] at hct
        have r0 := hct 0 _ rfl (by omega)
        have r1 := hct 1 _ rfl (by omega)
        have r2 := hct 2 _ rfl (by omega)
        have r3 := hct 3 _ rfl (by omega)
        have r4 := hct 4 _ rfl (by omega)
        have r5 := hct 5 _ rfl (by omega)
        have r6 := hct 6 _ rfl (by omega)
        have r7 := hct 7 _ rfl (by omega)
        have r8 := hct 8 _ rfl (by omega)
        simp only [← Nat.add_assoc, Nat.add_zero, Nd.kind, Nd.a, Nd.kids, Nd.cap, Nd.mn, Nd.mx, Nd.text] at q0 q1 q2 q3 q4 q5 q6 q7 q8 r0 r1 r2 r3 r4 r5 r6 r7 r8
        have hnv1 : nv (.mk kk [y0, y1, y2, y3] kmn kmx kt kaa kc kks) = .agg #[.int .i64 kk, .int .u64 (y0 : Int), .int .u64 (y1 : Int), .int .u64 (y2 : Int), .int .u64 (y3 : Int), .slice kaa kks.length kc, .int .i64 kmn, .int .i64 kmx, .string (Str kt)] := rfl
        have hnv2 : nv (.mk lk [v0, v1, v2, v3] lmn lmx lt laa lc lks) = .agg #[.int .i64 lk, .int .u64 (v0 : Int), .int .u64 (v1 : Int), .int .u64 (v2 : Int), .int .u64 (v3 : Int), .slice laa lks.length lc, .int .i64 lmn, .int .i64 lmx, .string (Str lt)] := rfl
        rw [hnv1, hnv2] at hxk2
        obtain ⟨kl, hkl⟩ : ∃ kl, kks.length = kl := ⟨_, rfl⟩
        obtain ⟨ll, hll⟩ : ∃ ll, lks.length = ll := ⟨_, rfl⟩
        rw [hkl] at hxk2 q5 r0 r1 r2 r3 r4 r5 r6 r7 r8
        rw [hll] at hxk2 r5
        have HK := Lib.hid hxk2
        have HSt := Lib.hid (And.intro hst hbad)
        have HBw := Lib.hid hbw
        clear bx1
        clear hall hbw hcs hct hia hib hxk hxk2 hst hbad hs1 hs2 hkx hky ho hnv1 hnv2 hkl hll
        have bx1 := HBw.out.alloc HBw.out.size (.cells #[.int .i64 kk, .int .u64 (y0 : Int), .int .u64 (y1 : Int), .int .u64 (y2 : Int), .int .u64 (y3 : Int), .slice kaa kl kc, .int .i64 kmn, .int .i64 kmx, .string (Str kt)] 27)
        have by' := bx1.alloc bx1.size (.cells #[.int .i64 lk, .int .u64 (v0 : Int), .int .u64 (v1 : Int), .int .u64 (v2 : Int), .int .u64 (v3 : Int), .slice laa ll lc, .int .i64 lmn, .int .i64 lmx, .string (Str lt)] 27)
        have HBy := Lib.hid by'
        have HK2 := Lib.hid (HK.out _ by')
        clear bx1 by' HK
        go_wp2_with fail
        with_reducible refine HK2.out.mono ?_
        rintro e w6 ⟨rfl, hb6⟩
        have HB6 := Lib.hid (HBy.out.trans (hb6.mono HBy.out.size))
        clear hb6
        cases o with
        | false =>
          have HF := Lib.hid (HSt.out.2 (by first | rfl | trivial))
          go_wp2
          go_ret
          exact ⟨by rw [HF.out]; rfl, HB6.out⟩
        | true =>
          go_wp2
          go_roundw
          case rel => exact ⟨j + 1, by omega, by go_num, HSt.out.1, HB6.out⟩
          case measure => simp [intOf]; omega
      · obtain rfl : j = na := by omega
        rw [List.take_of_length_le (by rw [HA.out.2.2]; exact Nat.le_refl _), List.take_of_length_le (by rw [HBb.out.2.2]; exact Nat.le_refl _)] at hall
        have HF := Lib.hid hall
        have HBw := Lib.hid hbw
        clear hall hbw
        go_wp2
        go_ret
        exact ⟨by rw [HF.out]; rfl, HBw.out⟩
  · have hd : ((na : Int) != (nb : Int)) = true := by simp; omega
    have hf : sms ax bx = false := by
      rw [Bool.eq_false_iff]
      intro h
      exact hne (by rw [← hna, ← hnb]; exact sms_len h)
    have HF := Lib.hid hf
    have hd2 : ((na : Int) == (nb : Int)) = false := by simp; omega
    clear ha hb hsa hsb hna hnb hx hf hne
    go_enter Tryd.func85, Tryd.ntmps85
    go_wp2
    go_ret
    exact ⟨by rw [HF.out]; rfl, Below.refl _ _⟩
set_option maxRecDepth 100000 in
set_option maxHeartbeats 8000000 in
/-- tree.same, its kids' answers at hand. -/
theorem same_step (k : Int) (x0 x1 x2 x3 : Nat) (a : Option Addr) (ks : List Nd) (c : Nat) (mn mx : Int) (t : List UInt8) (k' : Int) (y0 y1 y2 y3 : Nat) (a' : Option Addr) (ks' : List Nd) (c' : Nat) (mn' mx' : Int) (t' : List UInt8) (w : World)
    (hA : Is w.heap.size w (.mk k [x0, x1, x2, x3] mn mx t a c ks)) (hB : Is w.heap.size w (.mk k' [y0, y1, y2, y3] mn' mx' t' a' c' ks'))
    (hx : ∀ n ∈ ks, ∀ m ∈ ks', ∀ W, Below w.heap.size w W → Calls Tryd.prog 60 #[nv n, nv m] W (SmP n m W)) :
    Calls Tryd.prog 60 #[nv (.mk k [x0, x1, x2, x3] mn mx t a c ks), nv (.mk k' [y0, y1, y2, y3] mn' mx' t' a' c' ks')] w (SmP (.mk k [x0, x1, x2, x3] mn mx t a c ks) (.mk k' [y0, y1, y2, y3] mn' mx' t' a' c' ks') w) := by
  have hnv1 : nv (.mk k [x0, x1, x2, x3] mn mx t a c ks) = .agg #[.int .i64 k, .int .u64 (x0 : Int), .int .u64 (x1 : Int), .int .u64 (x2 : Int), .int .u64 (x3 : Int), .slice a ks.length c, .int .i64 mn, .int .i64 mx, .string (Str t)] := rfl
  have hnv2 : nv (.mk k' [y0, y1, y2, y3] mn' mx' t' a' c' ks') = .agg #[.int .i64 k', .int .u64 (y0 : Int), .int .u64 (y1 : Int), .int .u64 (y2 : Int), .int .u64 (y3 : Int), .slice a' ks'.length c', .int .i64 mn', .int .i64 mx', .string (Str t')] := rfl
  have hsm : sm (.mk k [x0, x1, x2, x3] mn mx t a c ks) (.mk k' [y0, y1, y2, y3] mn' mx' t' a' c' ks') = ((decide (k = k') && decide ([x0, x1, x2, x3] = [y0, y1, y2, y3]) && decide (mn = mn') && decide (mx = mx') && decide (t = t')) && sms ks ks') := rfl
  rw [hnv1, hnv2]
  show Calls _ _ _ w fun e w' => e = .returned (.bool (sm (.mk k [x0, x1, x2, x3] mn mx t a c ks) (.mk k' [y0, y1, y2, y3] mn' mx' t' a' c' ks'))) ∧ Below w.heap.size w w'
  rw [hsm]
  obtain ⟨_, hk1, hm1, _, hr1, _, hall1⟩ := id hA
  obtain ⟨_, hk2, hm2, _, hr2, _, hall2⟩ := id hB
  have heq := fun (W : World) (hb : Below w.heap.size w W) => eqf_c a ks c a' ks' c' W (hr1.keep hb) (hr2.keep hb) (goods_len hall1) (goods_len hall2) (by unfold maxLen at hm1; omega) (by unfold maxLen at hm2; omega) (fun n hn m hm W2 hb2 => hx n hn m hm W2 (hb.trans (hb2.mono hb.size)))
  obtain ⟨nl, hnl⟩ : ∃ nl, ks.length = nl := ⟨_, rfl⟩
  obtain ⟨nl', hnl'⟩ : ∃ nl', ks'.length = nl' := ⟨_, rfl⟩
  rw [hnl, hnl'] at heq ⊢
  generalize sms ks ks' = kb at *
  have b1 := (Below.refl w.heap.size w).alloc (Nat.le_refl _) (.cells #[.int .i64 k, .int .u64 (x0 : Int), .int .u64 (x1 : Int), .int .u64 (x2 : Int), .int .u64 (x3 : Int), .slice a nl c, .int .i64 mn, .int .i64 mx, .string (Str t)] 27)
  have s1 := block_alloc (x := .cells #[.int .i64 k', .int .u64 (y0 : Int), .int .u64 (y1 : Int), .int .u64 (y2 : Int), .int .u64 (y3 : Int), .slice a' nl' c', .int .i64 mn', .int .i64 mx', .string (Str t')] 27) (heap_alloc_new w (.cells #[.int .i64 k, .int .u64 (x0 : Int), .int .u64 (x1 : Int), .int .u64 (x2 : Int), .int .u64 (x3 : Int), .slice a nl c, .int .i64 mn, .int .i64 mx, .string (Str t)] 27))
  have b2 := b1.alloc b1.size (.cells #[.int .i64 k', .int .u64 (y0 : Int), .int .u64 (y1 : Int), .int .u64 (y2 : Int), .int .u64 (y3 : Int), .slice a' nl' c', .int .i64 mn', .int .i64 mx', .string (Str t')] 27)
  have s2 := heap_alloc_new (w.alloc (.cells #[.int .i64 k, .int .u64 (x0 : Int), .int .u64 (x1 : Int), .int .u64 (x2 : Int), .int .u64 (x3 : Int), .slice a nl c, .int .i64 mn, .int .i64 mx, .string (Str t)] 27)) (.cells #[.int .i64 k', .int .u64 (y0 : Int), .int .u64 (y1 : Int), .int .u64 (y2 : Int), .int .u64 (y3 : Int), .slice a' nl' c', .int .i64 mn', .int .i64 mx', .string (Str t')] 27)
  rw [World.size_alloc] at s2
  obtain ⟨W2, hW2⟩ : ∃ W2, (w.alloc (.cells #[.int .i64 k, .int .u64 (x0 : Int), .int .u64 (x1 : Int), .int .u64 (x2 : Int), .int .u64 (x3 : Int), .slice a nl c, .int .i64 mn, .int .i64 mx, .string (Str t)] 27)).alloc (.cells #[.int .i64 k', .int .u64 (y0 : Int), .int .u64 (y1 : Int), .int .u64 (y2 : Int), .int .u64 (y3 : Int), .slice a' nl' c', .int .i64 mn', .int .i64 mx', .string (Str t')] 27) = W2 := ⟨_, rfl⟩
  rw [hW2] at b2 s1 s2
  obtain ⟨p0, p1, p2, p3, p4, p5, p6, p7, p8⟩ := nd_cells s1
  obtain ⟨q0, q1, q2, q3, q4, q5, q6, q7, q8⟩ := nd_cells s2
  rw [← hW2] at p0 p1 p2 p3 p4 p5 p6 p7 p8 q0 q1 q2 q3 q4 q5 q6 q7 q8
  have hsr := fun w => eq_run [x0, x1, x2, x3] [y0, y1, y2, y3] rfl rfl w
  simp only [sv, vals, List.map_cons, List.map_nil] at hsr
  have hkk : (k == k') = decide (k = k') := by by_cases h : k = k' <;> simp [h]
  have hmm : (mn == mn') = decide (mn = mn') := by by_cases h : mn = mn' <;> simp [h]
  have hmx : (mx == mx') = decide (mx = mx') := by by_cases h : mx = mx' <;> simp [h]
  have htt : ((Str t).toList == (Str t').toList) = decide (t = t') := by rw [Str_beq]; by_cases h : t = t' <;> simp [h]
  generalize decide (k = k') = c1 at *
  generalize decide ([x0, x1, x2, x3] = [y0, y1, y2, y3]) = c2 at *
  generalize decide (mn = mn') = c3 at *
  generalize decide (mx = mx') = c4 at *
  generalize decide (t = t') = c5 at *
  have HE := Lib.hid (heq W2 b2)
  have HB := Lib.hid b2
  have HW2 := Lib.hid hW2
  clear heq b1 b2 s1 s2 hW2 hnv1 hnv2 hsm hA hB hx hk1 hm1 hr1 hall1 hk2 hm2 hr2 hall2 hnl hnl'
  cases c1 with
  | false =>
    go_enter Tryd.func60, Tryd.ntmps60
    go_wp2_with fail
    rw [HW2.out]
    go_ret
    exact ⟨rfl, HB.out⟩
  | true =>
    cases c2 with
    | false =>
      go_enter Tryd.func60, Tryd.ntmps60
      go_wp2_with fail
      rw [HW2.out]
      go_ret
      exact ⟨rfl, HB.out⟩
    | true =>
      cases c3 with
      | false =>
        go_enter Tryd.func60, Tryd.ntmps60
        go_wp2_with fail
        rw [HW2.out]
        go_ret
        exact ⟨rfl, HB.out⟩
      | true =>
        cases c4 with
        | false =>
          go_enter Tryd.func60, Tryd.ntmps60
          go_wp2_with fail
          rw [HW2.out]
          go_ret
          exact ⟨rfl, HB.out⟩
        | true =>
          cases c5 with
          | false =>
            go_enter Tryd.func60, Tryd.ntmps60
            go_wp2_with fail
            rw [HW2.out]
            go_ret
            exact ⟨rfl, HB.out⟩
          | true =>
            go_enter Tryd.func60, Tryd.ntmps60
            go_wp2_with fail
            rw [HW2.out]
            with_reducible refine HE.out.mono ?_
            rintro e w3 ⟨rfl, hb3⟩
            go_wp2
            go_ret
            exact ⟨rfl, HB.out.trans (hb3.mono HB.out.size)⟩
mutual
/-- tree.same. -/
theorem same_all : ∀ (n m : Nd) (w : World), Is w.heap.size w n → Is w.heap.size w m → Calls Tryd.prog 60 #[nv n, nv m] w (SmP n m w)
  | .mk k s mn mx t a c ks, .mk k' s' mn' mx' t' a' c' ks', w, h1, h2 => by
    have hx := sames_all ks w h1.2.2.2.2.2.2
    obtain ⟨x0, x1, x2, x3, hl⟩ := four' h1.1
    obtain ⟨y0, y1, y2, y3, hl'⟩ := four' h2.1
    subst hl hl'
    exact same_step k x0 x1 x2 x3 a ks c mn mx t k' y0 y1 y2 y3 a' ks' c' mn' mx' t' w h1 h2 fun n hn m hm W hb => hx n hn m W hb (Is.mono hb.size (Is.below hb (Is.all h2.2.2.2.2.2.2 m hm)))
theorem sames_all : ∀ (ks : List Nd) (w : World), IsAll w.heap.size w ks → ∀ n ∈ ks, ∀ m W, Below w.heap.size w W → Is W.heap.size W m → Calls Tryd.prog 60 #[nv n, nv m] W (SmP n m W)
  | [], _, _, n, hn, _, _, _, _ => by cases hn
  | x :: r, w, h1, n, hn, m, W, hb, h2 => by
    by_cases h : n = x
    · rw [h]
      exact same_all x m W (Is.mono hb.size (Is.below hb h1.1)) h2
    · exact sames_all r w h1.2 n (by rcases List.mem_cons.1 hn with h3 | h3; exact absurd h3 h; exact h3) m W hb h2
end
end Tr
end Go.Proofs.YtoeeddfinmfnoaaDoor
