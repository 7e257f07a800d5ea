import Derived.Test.YteekonojmpihlaaDoorQTreeCnt
import Derived.Test.YteekonojmpihlaaDoorQRangeA
import Derived.Test.YteekonojmpihlaaDoorQStrHas
import Derived.BigQuiet
import Derived.Test.YteekonojmpihlaaDoorQJoin
import Derived.Test.YteekonojmpihlaaDoorQClear
import Derived.Test.YteekonojmpihlaaDoorQBrkPure
/- tree.Names. -/
namespace Go.Proofs.YteekonojmpihlaaDoor
namespace Kt
end Kt
open Go Go.RowKit Go.Shelf Kt
namespace Tr
attribute [local go_sem] Oper.semAt_some
/-- At an append whose run is known, in a fence. -/
theorem wpListIn_append_run {F : Fence} {n : Nat} {P : Program} {w w' : World} {ops : Array Oper} {rest : List Oper} {o : Oper} {a : Act} {Q : Exit → Act → World → Prop} {s x : Operand} {t ti ty : TypeId} {v u v' : Value}
    (hrun : (Builtin.append_ #[t, ti] ty #[v, u]).run P w = .ok v' w') (hg : o.guard = none)
    (hop : o.op = .call { callee := .builtin .append, args := #[s, x], argTypes := #[t, ti] }) (hty : o.type = ty) (hs : a.eval s = v) (hx : a.eval x = u)
    (h : wpListIn F n P ops Q rest (a.put o.dst v') w') : wpListIn F n P ops Q (o :: rest) a w := by
  subst hty
  refine wpListIn_plain hg fun K hK' => ?_
  unfold Oper.wpIn
  refine ⟨?_, ?_⟩
  · simp [Oper.about, hop, resolve, Target.leads, Sem.run_pure]
  · rw [Oper.semAt_plain F _ _ (by rw [hop]; intro c hc'; cases hc')]
    simp [execOp, hop, resolve, invoke, builtin, hs, hx, hrun, Result.andThen]
    exact hK' _ _ h
/-- What the range's 'assign' makes of a node: a box of the round's own. -/
def NAsg (nd : Array Value) (w : World) (x : Nd × Nat) (W : World) (a' : Act) (W' : World) : Prop :=
  W' = W.alloc (.cells (cells x.1).toArray 37) ∧ a' = { tmps := #[.agg nd, .pointer (some ⟨w.heap.size, 0, none⟩), .slice none 0 0, .pointer (some ⟨w.heap.size + 1, 0, none⟩), .pointer (some ⟨W.heap.size, 0, none⟩), .agg nd, .func (.func 97) #[] #[.pointer (some ⟨w.heap.size + 1 + 1, 0, none⟩)], nv x.1, .int .i64 (x.2 : Nat), undef, undef, undef, undef, undef, undef, undef, undef, undef, undef, undef, undef, undef, undef, undef, undef], defers := [] }
/-- Where Names' range stands. -/
structure Nm (w : World) (T : List Nat) (L : List (List UInt8)) (W : World) : Prop where
  tl : ∀ t ∈ T, w.heap.size + 3 ≤ t
  V : ∃ v, W.heap[w.heap.size + 1]? = some (.cells #[v] 38 (0, 0)) ∧ W.ownsRow (w.heap.size + 3) 9 1 v L.length (L.map fun t => .string (Str t)) ∧ ∀ k, v.ownBlock = some k → k ∉ T
  B : Below w.heap.size w W
  Z : w.heap.size + 3 ≤ W.heap.size
theorem Nm.mod {w : World} {T T' : List Nat} {L : List (List UInt8)} {A A' : World} (h : Nm w T L A) (hM : Mod T A A') (hT : ∀ t ∈ T', t ∈ T ∨ A.heap.size ≤ t) : Nm w T' L A' := by
  obtain ⟨v, h1, h2, h3⟩ := h.V
  refine ⟨fun t ht => ?_, ⟨v, (hM.block _ (block_lt h1) (fun hm => by have := h.tl _ hm; omega)).trans h1, own_mod h2 hM h3, fun k hk hm => ?_⟩, h.B.trans (hM.toBelow h.B.size (fun k hk => by have := h.tl k hk; omega)), Nat.le_trans h.Z hM.size⟩
  · rcases hT t ht with h4 | h4
    · exact h.tl t h4
    · have := h.Z; omega
  · rcases hT k hm with h4 | h4
    · exact h3 k hk h4
    · have := (h2.lt k hk).2; omega
theorem names_snoc (l : List (Nd × Nat)) (x : Nd × Nat) : names (l ++ [x]) = if x.1.kind = 5 ∧ x.1.text ∉ names l then names l ++ [x.1.text] else names l := by
  unfold names
  rw [List.foldl_append]
  rfl
theorem names_no (l : List (Nd × Nat)) (x : Nd × Nat) (h : ¬ (x.1.kind = 5 ∧ x.1.text ∉ names l)) : names (l ++ [x]) = names l := by rw [names_snoc, if_neg h]
theorem names_yes (l : List (Nd × Nat)) (x : Nd × Nat) (h1 : x.1.kind = 5) (h2 : x.1.text ∉ names l) : names (l ++ [x]) = names l ++ [x.1.text] := by rw [names_snoc, if_pos ⟨h1, h2⟩]
theorem names_le (l : List (Nd × Nat)) : (names l).length ≤ l.length := by
  refine Bk.snoc_ind (P := fun l => (names l).length ≤ l.length) (by simp [names]) (fun l x ih => ?_) l
  rw [names_snoc]
  split <;> simp <;> omega
set_option maxRecDepth 100000 in
set_option maxHeartbeats 2000000 in
/-- tree.Names. -/
theorem names_c0 (n : Nd) (hset : ∀ x ∈ walk n, x.1.set.length = 4) (w : World) (hIs : Is w.heap.size w n) :
    Calls Tryd.prog 31 #[nv n] w fun e W' => ∃ v, e = .returned v ∧ W'.ownsRow w.heap.size 9 1 v (names (walk n)).length ((names (walk n)).map fun t => .string (Str t)) ∧ Below w.heap.size w W' := by
  refine (callsIn_wide (n := 3)).1 ?_
  have hall := fun m w => all_in m n hIs.len w
  have hseqs := fun bn w0 h1 h2 h3 => all_seq (3 - 1) w.heap.size bn n w0 h1 h2 h3
  have hlen : ∀ pre x, pre ++ [x] <+: walk n → pre.length < 601 := fun pre x h => by
    have h1 := h.length_le
    have h2 : (walk n).length ≤ 601 := by simp only [walk, List.length_take]; omega
    simp at h1
    omega
  obtain ⟨x0, x1, x2, x3, hs⟩ := four' hIs.len
  have hnk : ∃ (k mn mx : Int) (a : Option Addr) (nl c : Nat) (t : List UInt8), nv n = .agg #[.int .i64 k, .int .u64 (x0 : Int), .int .u64 (x1 : Int), .int .u64 (x2 : Int), .int .u64 (x3 : Int), .slice a nl c, .int .i64 mn, .int .i64 mx, .string (Str t)] ∧ (cells n).toArray = #[.int .i64 k, .int .u64 (x0 : Int), .int .u64 (x1 : Int), .int .u64 (x2 : Int), .int .u64 (x3 : Int), .slice a nl c, .int .i64 mn, .int .i64 mx, .string (Str t)] := by
    obtain ⟨k, s, mn, mx, t, a, c, ks⟩ := n
    simp only [Nd.set] at hs
    subst hs
    exact ⟨k, mn, mx, a, ks.length, c, t, rfl, rfl⟩
  obtain ⟨k, mn, mx, a, nl, c, t, hnv, hcl⟩ := hnk
  rw [hnv, hcl] at hall
  rw [hcl] at hseqs
  rw [hnv]
  have HA := Lib.hid hall
  have HS := Lib.hid hseqs
  have HI := Lib.hid hIs
  have HL := Lib.hid hlen
  have HZ := Lib.hid hset
  clear hall hseqs hIs hlen hnv hcl hs hset
  refine callsIn_of_wp_marks Tryd.func31 rfl trivial ?_ rfl
  simp only [Tryd.ntmps31, List.size_toArray, List.length_cons, List.length_nil, Nat.reduceAdd, Nat.reduceSub, Array.replicate_succ, Array.replicate_zero, List.push_toArray, List.append_toArray, List.nil_append, List.cons_append]
  gi_wp2_with (refine ⟨trivial, ?_⟩; gi_at_call 69; refine (HA.out _ _).mono ?_; rintro e w' ⟨rfl, rfl⟩)
  obtain ⟨nd, hnd⟩ : ∃ nd : Array Value, nd = #[.int .i64 k, .int .u64 (x0 : Int), .int .u64 (x1 : Int), .int .u64 (x2 : Int), .int .u64 (x3 : Int), .slice a nl c, .int .i64 mn, .int .i64 mx, .string (Str t)] := ⟨_, rfl⟩
  rw [← hnd] at HS ⊢
  obtain ⟨w3, hw3⟩ : ∃ w3, (((w.alloc (.cells nd 37)).alloc (.cells #[.slice none 0 0] 38)).alloc (.cells nd 37)) = w3 := ⟨_, rfl⟩
  have hs3 : w3.heap.size = w.heap.size + 3 := by rw [← hw3]; simp
  have hB0 : Below w.heap.size w w3 := by
    rw [← hw3]
    exact (((Below.refl _ w).alloc (Nat.le_refl _) _).alloc (by simp) _).alloc (by simp; omega) _
  have bO : w3.heap[w.heap.size + 1]? = some (.cells #[.slice none 0 0] 38 (0, 0)) := by
    rw [← hw3]
    have := heap_alloc_new (w.alloc (.cells nd 37)) (.cells #[.slice none 0 0] 38)
    rw [World.size_alloc] at this
    exact block_alloc this
  have hBn : w3.heap[w.heap.size + 1 + 1]? = some (.cells nd 37 (0, 0)) := by
    rw [← hw3]
    have := heap_alloc_new ((w.alloc (.cells nd 37)).alloc (.cells #[.slice none 0 0] 38)) (.cells nd 37)
    rw [World.size_alloc, World.size_alloc] at this
    exact this
  have hseq := HS.out _ w3 hBn (Is.below hB0 HI.out) (by omega)
  rw [hw3]
  clear hw3 hBn HS HI HA hnd
  refine wp_rangeA (gf := 97) (lb := #[.pointer (some ⟨w.heap.size + 1 + 1, 0, none⟩)]) rfl (enters_of Tryd.func97 (by kernel_rfl) rfl)
    hseq (Below.refl _ _) (by omega) (fun _ => rfl)
    (fun T pre W => Nm w T (names pre) W) (fun _ _ _ _ => False)
    (fun T T' pre A A' h hM hT => h.mod hM hT) (fun _ _ _ _ _ _ h _ _ => h)
    (fun T W' hT hB => ⟨fun t ht => by have := hT t ht; omega, ⟨_, (hB.block _ (block_lt bO)).trans bO, World.ownsRow_nil _ _ _ _, fun k hk => by cases hk⟩, hB0.trans (hB.mono (by omega)), by have := hB.size; omega⟩)
    (NAsg nd w) (fun x W a' W' h => by rw [h.1]; exact (Below.refl _ _).alloc (Nat.le_refl _) _) ?assign ?body ?done ?stop
  case assign =>
    intro l x W K hx hK
    have hxs := HZ.out x hx
    have hK' := hK _ _ ⟨rfl, rfl⟩
    obtain ⟨y, lv⟩ := x
    obtain ⟨k', s', mn', mx', t', a', c', ks'⟩ := y
    simp only [Nd.set] at hxs
    obtain ⟨y0, y1, y2, y3, rfl⟩ := four' hxs
    unfold enc
    have hz : (#[7, 8] : Array Tmp).zip #[nv (Nd.mk k' [y0, y1, y2, y3] mn' mx' t' a' c' ks', lv).1, .int .i64 ((Nd.mk k' [y0, y1, y2, y3] mn' mx' t' a' c' ks', lv).2 : Nat)] = #[(7, .agg #[.int .i64 k', .int .u64 (y0 : Int), .int .u64 (y1 : Int), .int .u64 (y2 : Int), .int .u64 (y3 : Int), .slice a' ks'.length c', .int .i64 mn', .int .i64 mx', .string (Str t')]), (8, .int .i64 (lv : Nat))] := by simp [nv, cells, w64, Nd.kind, Nd.set, Nd.mn, Nd.mx, Nd.text, Nd.a, Nd.cap, Nd.kids]
    rw [hz]
    have HK := Lib.hid hK'
    clear hK hK' hz hxs hx
    gi_wp2
    exact HK.out
  case body =>
    rintro l T pre x W0 W1 W a' hN ⟨rfl, rfl⟩ hM hTW hW0 hpre
    have hlt := HL.out _ _ hpre
    have hle := names_le pre
    have hxs := HZ.out x (hpre.subset (by simp))
    have hTl : ∀ t ∈ T, t < W.heap.size := fun t ht => by have h1 := hM.size; have h2 := (hTW t ht).2; simp at h1; omega
    rw [hs3] at hW0
    have hnb : W.heap[W0.heap.size]? = some (.cells (cells x.1).toArray 37 (0, 0)) := (hM.block _ (by simp) (fun hm => by have := (hTW _ hm).2; omega)).trans (heap_alloc_new W0 _)
    have hno := names_no pre x
    have hyes := names_yes pre x
    obtain ⟨L, hL⟩ : ∃ L, names pre = L := ⟨_, rfl⟩
    rw [hL] at hN hle hno hyes
    obtain ⟨v, hv, hrow, hvT⟩ := hN.V
    obtain ⟨ra, rc, hvv, _, _, hrd, _⟩ := rd_own hrow
    subst hvv
    obtain ⟨y, lv⟩ := x
    obtain ⟨k', s', mn', mx', t', a', c', ks'⟩ := y
    simp only [Nd.set] at hxs
    obtain ⟨y0, y1, y2, y3, rfl⟩ := four' hxs
    simp only [Nd.kind, Nd.text] at hno hyes
    have hcl : (cells (Nd.mk k' [y0, y1, y2, y3] mn' mx' t' a' c' ks')).toArray = #[.int .i64 k', .int .u64 (y0 : Int), .int .u64 (y1 : Int), .int .u64 (y2 : Int), .int .u64 (y3 : Int), .slice a' ks'.length c', .int .i64 mn', .int .i64 mx', .string (Str t')] := rfl
    have hnv : nv (Nd.mk k' [y0, y1, y2, y3] mn' mx' t' a' c' ks', lv).1 = .agg #[.int .i64 k', .int .u64 (y0 : Int), .int .u64 (y1 : Int), .int .u64 (y2 : Int), .int .u64 (y3 : Int), .slice a' ks'.length c', .int .i64 mn', .int .i64 mx', .string (Str t')] := rfl
    simp only at hnb
    rw [hcl] at hnb
    rw [hnv]
    have z0 := cell_block (i := 0) (show _ = some (Obj.cells _ _ _) from hnb)
    have z8 := cell_block (i := 8) (show _ = some (Obj.cells _ _ _) from hnb)
    simp only [List.getElem?_toArray, List.getElem?_cons_zero, List.getElem?_cons_succ] at z0 z8
    have hc := cell_block (i := 0) (show _ = some (Obj.cells _ _ _) from hv)
    simp only [List.getElem?_toArray, List.getElem?_cons_zero] at hc
    have hhas := fun m => (callsIn_wide (n := m)).2 (has_c ra rc L.length L t' W rfl (by omega) hrd)
    have HH := Lib.hid hhas
    by_cases hk5 : k' = 5
    · by_cases hin : t' ∈ L
      · have hd : decide (t' ∈ L) = true := decide_eq_true hin
        rw [hd] at HH
        have hn2 := hN
        rw [← hno (fun h => h.2 hin)] at hn2
        have HX := Lib.hid hn2
        subst hk5
        clear hhas hin hno hyes hN hn2 hv hrow hvT hrd hnb hcl hnv hM hTW hpre hL hd hxs
        generalize ks'.length = nl' at *
        generalize L.length = Ln at *
        gi_wp2_with (first | (refine ⟨trivial, ?_⟩; gi_at_call 65; refine (HH.out _).mono ?_; rintro e W3 ⟨rfl, rfl⟩) | (refine ⟨trivial, ?_⟩))
        exact ⟨⟨Nat.le_refl _, fun _ _ => rfl⟩, Below.refl _ _, HX.out⟩
      · have hd : decide (t' ∈ L) = false := decide_eq_false hin
        rw [hd] at HH
        have hnm := hyes hk5 hin
        subst hk5
        have b1 := (Below.refl W.heap.size W).alloc (Nat.le_refl _) (.cells #[.string (Str t')] 9)
        have hrow1 := own_keep hrow b1
        have hrn : Rd (W.alloc (.cells #[.string (Str t')] 9)) (some ⟨W.heap.size, 0, none⟩) [.string (Str t')] := Rd.new W #[.string (Str t')] 9 (0, 0) _ rfl
        obtain ⟨g2, cap2, W2, hrun, own2, gr2, hlie, hg2⟩ := elStr.lies (w.heap.size + 3) (ty := 38) hrow1 1 1 rfl (by decide) hrn (by simp [Value.oneCell']) (by unfold maxLen; omega) (by omega) (by have := hN.Z; simp; omega)
        have hv1 := (b1.block _ (block_lt hv)).trans hv
        have hne : ∀ k, (Value.slice ra L.length rc).ownBlock = some k → w.heap.size + 3 ≤ k := fun k hk => (hrow1.lt k hk).1
        have hv2 := (gr2.block _ (block_lt hv1) (fun e => by have := hne _ e.symm; omega)).trans hv1
        have hf2 := frozen_block (show _ = some (Obj.cells _ _ (0, 0)) from hv2) 0
        have hc2 := cell_block (i := 0) (show _ = some (Obj.cells _ _ _) from hv2)
        simp only [List.getElem?_toArray, List.getElem?_cons_zero] at hc2
        have hsz1 : (W.alloc (.cells #[.string (Str t')] 9)).heap.size = W.heap.size + 1 := by simp
        obtain ⟨v2, hv2e⟩ : ∃ v2, Value.slice (some ⟨g2, 0, none⟩) (L.length + 1) cap2 = v2 := ⟨_, rfl⟩
        have hob : v2.ownBlock = some g2 := by rw [← hv2e]; rfl
        rw [hv2e] at hrun own2
        obtain ⟨S, hS⟩ : ∃ S, S = (w.heap.size + 1) :: (Value.slice ra L.length rc).ownBlock.toList := ⟨_, rfl⟩
        have hM3 : Mod S W (W2.setCell ⟨w.heap.size + 1, 0, none⟩ v2) := by
          rw [hS]
          exact (((Mod.refl _ W).alloc _).grown gr2 (fun k hk => .inl (by simp [hk]))).setCell (.inl (by simp)) _
        have hSb : ∀ k ∈ S, w.heap.size ≤ k ∧ k ∉ T := by
          intro k hk
          rw [hS] at hk
          simp only [List.mem_cons, Option.mem_toList] at hk
          rcases hk with rfl | hk
          · exact ⟨by omega, fun hm => by have := hN.tl _ hm; omega⟩
          · exact ⟨by have := hne k hk; omega, hvT k hk⟩
        have hg2n : w.heap.size + 3 ≤ g2 := (own2.lt g2 hob).1
        have hNm : Nm w T (L ++ [t']) (W2.setCell ⟨w.heap.size + 1, 0, none⟩ v2) := by
          refine ⟨hN.tl, ⟨v2, block_setCell (i := 0) (show _ = some (Obj.cells _ _ _) from hv2) _, ?_, fun k hk => ?_⟩, hN.B.trans (hM3.toBelow hN.B.size fun k hk => (hSb k hk).1), Nat.le_trans hN.Z hM3.size⟩
          · have := own_mod own2 ((Mod.refl [w.heap.size + 1] W2).setCell (p := ⟨w.heap.size + 1, 0, none⟩) (.inl (by simp)) v2) (fun k hk => by rw [hob] at hk; cases hk; simp; omega)
            simpa using this
          · rw [hob] at hk
            cases hk
            rcases hlie with h | h
            · exact hvT _ h
            · intro hm; have := hTl _ hm; simp at h; omega
        rw [← hnm] at hNm
        have HX := Lib.hid hNm
        have HM := Lib.hid (show (W.heap.size ≤ (W2.setCell ⟨w.heap.size + 1, 0, none⟩ v2).heap.size ∧ ∀ t ∈ T, (W2.setCell ⟨w.heap.size + 1, 0, none⟩ v2).heap[t]? = W.heap[t]?) ∧ Below w.heap.size W (W2.setCell ⟨w.heap.size + 1, 0, none⟩ v2) from ⟨⟨hM3.size, fun t ht => hM3.block t (hTl t ht) (fun hm => (hSb t hm).2 ht)⟩, hM3.toBelow hN.B.size fun k hk => (hSb k hk).1⟩)
        rw [← hv2e] at hrun HX HM
        clear hhas hin hno hyes hnm hN hNm hv hv1 hv2 hv2e hob hrow hrow1 hvT hrd hnb hcl hnv hM hM3 hSb hS hTW hpre hL hd hxs own2 gr2 hlie hg2 hg2n hne b1 hrn hsz1
        generalize ks'.length = nl' at *
        generalize L.length = Ln at *
        gi_wp2_with (first | (refine ⟨trivial, ?_⟩; gi_at_call 65; refine (HH.out _).mono ?_; rintro e W3 ⟨rfl, rfl⟩) | (gi_at_builtin; (with_reducible apply wpListIn_append_run hrun); rfl; rfl; rfl; rfl; rfl) | (refine ⟨trivial, ?_⟩))
        exact ⟨HM.out.1, HM.out.2, HX.out⟩
    · have hk5' : (k' == 5) = false := by simpa using hk5
      have hn2 := hN
      rw [← hno (fun h => hk5 h.1)] at hn2
      have HX := Lib.hid hn2
      clear hhas hno hyes hN hn2 hv hrow hvT hrd hnb hcl hnv hM hTW hpre hL hk5 hxs
      generalize ks'.length = nl' at *
      generalize L.length = Ln at *
      gi_wp2_with (refine ⟨trivial, ?_⟩)
      exact ⟨⟨Nat.le_refl _, fun _ _ => rfl⟩, Below.refl _ _, HX.out⟩
  case done =>
    rintro D W hD hN hK
    obtain ⟨v, hv, hrow, hvT⟩ := hN.V
    have hc := cell_block (i := 0) (show _ = some (Obj.cells _ _ _) from hv)
    simp only [List.getElem?_toArray, List.getElem?_cons_zero] at hc
    have hB := Lib.hid hN.B
    have HR := Lib.hid hrow
    clear hN hv hrow hvT
    gi_wp2
    refine ⟨by simp, .inl ⟨_, _, rfl, run_takeDeferred hK, ?_⟩⟩
    exact ⟨_, results_tmp rfl _ _ _, v, rfl, own_base (ownsRow_putObj HR.out _ hK rfl) (by omega), hB.out.trans (belowK_b (w := w) (Nat.le_refl _) W D _ _ (by omega) hK rfl rfl)⟩
  case stop =>
    rintro D c pre W _ _ h _
    exact h.elim
end Tr
end Go.Proofs.YteekonojmpihlaaDoor
