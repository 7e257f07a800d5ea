import Derived.Test.YteekonojmpihlaaDoorQNmUse
import Derived.Test.YteekonojmpihlaaDoorQNmSp
import Derived.Test.YteekonojmpihlaaDoorQTreeNms
import Derived.Test.YteekonojmpihlaaDoorQClear
import Derived.Deep.RegionHeld3
/- Package names: Uses. -/
namespace Go.Proofs.YteekonojmpihlaaDoor
namespace Kt
end Kt
namespace St
end St
namespace Sp
end Sp
namespace Bk
end Bk
namespace Tr
end Tr
open Go Go.RowKit Kt St Sp Bk Tr
namespace Bo
theorem names_er (n : Nd) : names (walk (er n)) = names (walk n) := by rw [er_walk, names_map]
theorem names_nil0 : names (walk nil0) = [] := by simp [walk, nil0, full, fulls, names, Nd.kind]
theorem stepU_eq (Ts : Bks) (out : List (List UInt8)) (s : List UInt8) : stepU (erB Ts) out s = addL out (names (walk ((lkS Ts s).getD nil0))) := by
  unfold stepU
  rw [lkS_er]
  cases lkS Ts s with
  | none => simp only [Option.map_none, Option.getD_none, names_nil0]; rfl
  | some m => simp only [Option.map_some, Option.getD_some]; rw [← addL_names, names_er]
theorem NB.look1 {w : World} {p mb n c : Nat} {g : Option Addr} {Ts : Bks} (h : NB w p g c mb n Ts) (s : List UInt8) (hs : s.length ≤ 9223372036854775807) :
    (Instr.lookup 107 (.map (some mb)) (.string (Str s)) false).run Tryd.prog w = .ok (nv ((lkS Ts s).getD nil0)) w :=
  h.hm.get enc_nv Tryd.underlying107 Tryd.underlying9 (zeroN w) s hs
theorem names_mem (ws : List (Nd × Nat)) : ∀ s ∈ names ws, ∃ y ∈ ws, y.1.text = s := by
  induction ws using Bk.snoc_ind with
  | h0 => intro s hs; cases hs
  | h1 ws y ih =>
    intro s hs
    rw [names_addN, addN_snoc, ← names_addN] at hs
    by_cases h : y.1.kind = 5 ∧ y.1.text ∉ names ws
    · rw [if_pos h] at hs
      rcases List.mem_append.1 hs with hs | hs
      · obtain ⟨z, h1, h2⟩ := ih s hs
        exact ⟨z, by simp [h1], h2⟩
      · simp only [List.mem_singleton] at hs
        exact ⟨y, by simp, hs.symm⟩
    · rw [if_neg h] at hs
      obtain ⟨z, h1, h2⟩ := ih s hs
      exact ⟨z, by simp [h1], h2⟩
theorem addL_len (l xs : List (List UInt8)) : (addL l xs).length ≤ l.length + xs.length := by
  induction xs using Bk.snoc_ind with
  | h0 => simp [addL]
  | h1 xs y ih =>
    rw [addL_snoc, List.length_append]
    split
    · simp only [List.length_cons, List.length_nil]; omega
    · rw [List.length_append]; simp only [List.length_cons, List.length_nil]; omega
theorem addL_mem (l xs : List (List UInt8)) : ∀ x ∈ addL l xs, x ∈ l ∨ x ∈ xs := by
  induction xs using Bk.snoc_ind with
  | h0 => intro x hx; exact .inl hx
  | h1 xs y ih =>
    intro x hx
    rw [addL_snoc] at hx
    split at hx
    · exact (ih x hx).imp id (fun h => by simp [h])
    · rcases List.mem_append.1 hx with hx | hx
      · exact (ih x hx).imp id (fun h => by simp [h])
      · simp only [List.mem_singleton] at hx; subst hx; exact .inr (by simp)
theorem addL_take (l xs : List (List UInt8)) (k : Nat) (hk : k < xs.length) : addL l (xs.take (k + 1)) = if xs[k] ∈ addL l (xs.take k) then addL l (xs.take k) else addL l (xs.take k) ++ [xs[k]] := by
  rw [List.take_add_one, List.getElem?_eq_getElem hk, Option.toList_some, addL_snoc]
theorem walk601 (n : Nd) : (names (walk n)).length ≤ 601 := by
  have h1 := names_le (walk n)
  have h3 : (walk n).length ≤ 601 := by simp [walk, List.length_take]; omega
  omega
/-- What Uses answers. -/
def UsP (B : Bks) (x : Nd) (w : World) (e : Ending) (w' : World) : Prop :=
  (rgt x = false ∧ e = .returned (.slice none 0 0) ∧ Below w.heap.size w w') ∨ (rgt x = true ∧ ∃ a c N, e = .returned (.slice a N c) ∧ (uses B (er x)).length = N ∧ w'.ownsRow w.heap.size 9 1 (.slice a N c) N (strs (uses B (er x))) ∧ Below w.heap.size w w')
/-- Where the outer loop stands. -/
structure UsO (B : Bks) (x : Nd) (w : World) (M i : Nat) (out : List (List UInt8)) (a : Option Addr) (N c : Nat) (W : World) : Prop where
  ln : out.length = N
  own : W.ownsRow w.heap.size 9 1 (.slice a N c) N (strs out)
  inv : UsI B (er x) i out
  us : usF B (M + 1 - i) i out = uses B (er x)
  hb : Below w.heap.size w W
  tx : ∀ s ∈ out, s.length ≤ 9223372036854775807
/-- Where the inner loop stands. -/
structure UsN (w : World) (out xs : List (List UInt8)) (va : Option Addr) (k : Nat) (a : Option Addr) (N c : Nat) (W : World) : Prop where
  ln : (addL out (xs.take k)).length = N
  own : W.ownsRow w.heap.size 9 1 (.slice a N c) N (strs (addL out (xs.take k)))
  rd : Rd W va (strs xs)
  hv : ∀ p, va = some p → (Value.slice a N c).ownBlock ≠ some p.block
  hb : Below w.heap.size w W
set_option maxRecDepth 100000 in
set_option maxHeartbeats 2000000 in
theorem uses_c (p : Nat) (L X : List Nat) (B : Bks) (x : Nd) (ht : ∀ y ∈ walk x, y.1.text.length ≤ 9223372036854775807) (w : World) (hIs : Is w.heap.size w x) (h : BK w p L X B) :
    Calls Tryd.prog 25 #[.pointer (some ⟨p, 0, none⟩), nv x] w (UsP B x w) := by
  have hBl := h.len
  obtain ⟨x0, x1, x2, x3, hx⟩ := four' hIs.len
  obtain ⟨k, mn, mx, a, nl, cc, t, hnv, _⟩ := nv_explicit hx
  obtain ⟨W3, hW3⟩ : ∃ W3, w.alloc (.cells #[.int .i64 k, .int .u64 (x0 : Int), .int .u64 (x1 : Int), .int .u64 (x2 : Int), .int .u64 (x3 : Int), .slice a nl cc, .int .i64 mn, .int .i64 mx, .string (Str t)] 37 (0, 0)) = W3 := ⟨_, rfl⟩
  have hB : Below w.heap.size w W3 := by rw [← hW3]; exact (Below.refl _ _).alloc (Nat.le_refl _) _
  have l2 : W3.heap[w.heap.size]? = some (.cells #[.int .i64 k, .int .u64 (x0 : Int), .int .u64 (x1 : Int), .int .u64 (x2 : Int), .int .u64 (x3 : Int), .slice a nl cc, .int .i64 mn, .int .i64 mx, .string (Str t)] 37 (0, 0)) := by rw [← hW3]; exact World.alloc_heap_new _ _
  have hrt := right_c x ht W3 (Is.mono hB.size (Is.below hB hIs))
  rw [hnv] at hrt ⊢
  have HW3 := Lib.hid hW3
  have HB := Lib.hid hB
  have H2 := Lib.hid l2
  have HK := Lib.hid (And.intro h (And.intro hIs (And.intro ht (And.intro hnv hBl))))
  obtain ⟨u0, u1, u2, u3, u4, u5, u6, u7, u8⟩ := nd_cells l2
  cases hr : rgt x with
  | false =>
    rw [hr] at hrt
    have HRt := Lib.hid hrt
    have HFin := Lib.hid (fun (V : World) (hb : Below w.heap.size w V) => (show UsP B x w (.returned (.slice none 0 0)) V from .inl ⟨hr, rfl, hb⟩))
    clear hrt hr l2 hB hW3 hIs h hnv hx ht hBl
    go_enter Tryd.func25, Tryd.ntmps25
    go_upto_region 1 with (fail)
    rw [HW3.out]
    go_wp2_with fail
    with_reducible refine HRt.out.mono ?_
    rintro e w4 ⟨rfl, hb4⟩
    go_wp2
    go_ret
    exact HFin.out w4 (HB.out.trans (hb4.mono HB.out.size))
  | true =>
    rw [hr] at hrt
    have HRt := Lib.hid hrt
    have HR := Lib.hid hr
    obtain ⟨M, hM⟩ : ∃ M, (allN B (er x)).length = M := ⟨_, rfl⟩
    have hM3 : M ≤ 30000 := by rw [← hM]; exact allN_le B (er x) hBl
    have HM := Lib.hid hM
    clear hrt hr l2 hB hW3 hIs h hnv hx ht hBl hM
    go_enter Tryd.func25, Tryd.ntmps25
    go_upto_region 1 with (fail)
    rw [HW3.out]
    go_wp2_with fail
    with_reducible refine HRt.out.mono ?_
    rintro e w4 ⟨rfl, hb4⟩
    clear u0 u1 u2 u3 u4 u5 u6 u7 u8
    obtain ⟨h, hIs, ht, hnv, hBl⟩ := HK.out
    have hB4 := HB.out.trans (hb4.mono HB.out.size)
    have hI4 : Is w4.heap.size w4 x := Is.mono hB4.size (Is.below hB4 hIs)
    have hnm := names_c0 x (walk_len hI4) w4 hI4
    rw [hnv] at hnm
    obtain ⟨u0, u1, u2, u3, u4, u5, u6, u7, u8⟩ := nd_cells ((hb4.block _ (block_lt H2.out)).trans H2.out)
    have HNm := Lib.hid hnm
    have HB4 := Lib.hid hB4
    clear hnm hI4 hB4 hb4 h hIs ht hnv hBl
    go_wp2_with fail
    with_reducible refine HNm.out.mono ?_
    rintro e w5 ⟨v, rfl, own5, hb5⟩
    clear u0 u1 u2 u3 u4 u5 u6 u7 u8
    obtain ⟨h, hIs, ht, hnv, hBl⟩ := HK.out
    obtain ⟨va, vc, rfl, _⟩ := rd_own own5
    have hB5 := HB4.out.trans (hb5.mono HB4.out.size)
    obtain ⟨N0, hN0⟩ : ∃ N0, (names (walk x)).length = N0 := ⟨_, rfl⟩
    have hst : UsO B x w M 0 (names (walk x)) va N0 vc w5 := by
      refine ⟨hN0, ?_, ?_, ?_, hB5, ?_⟩
      · have := own_base own5 HB4.out.size
        rw [hN0] at this
        exact this
      · have := UsI.start B (er x)
        rw [names_er] at this
        exact this
      · rw [uses, HM.out, names_er]; rfl
      · intro s hs
        obtain ⟨y, hy, rfl⟩ := names_mem _ s hs
        exact ht y hy
    rw [hN0]
    have HSt := Lib.hid hst
    clear hst own5 hb5 hB5 hN0 h hIs ht hnv hBl
    go_wp2_with fail
    go_loopw [5, 6, 8, 31] (fun o i _ _ W => ∃ (j N c : Nat) (aa : Option Addr) (out : List (List UInt8)), i = .int .i64 (j : Int) ∧ o = .slice aa N c ∧ UsO B x w M j out aa N c W) (fun _ i _ _ _ => M + 1 - (intOf i).toNat)
    case atStart => exact ⟨0, N0, vc, va, _, rfl, rfl, HSt.out⟩
    case round =>
      obtain ⟨j, N, c, aa, out, rfl, rfl, hU⟩ := hrel
      have hlen := hU.inv.len
      rw [HM.out] at hlen
      have hNo := hU.ln
      by_cases hj : j < N
      · obtain ⟨h, hIs, ht, hnv, hBl⟩ := HK.out
        obtain ⟨g, bc, mb, bn, Ts, h1, hLe, h3, hTs⟩ := (h.below hU.hb).ex
        have hjo : j < out.length := by omega
        obtain ⟨rb, ro, rfl, e1⟩ := (Rd.own hU.own).map_at j hjo
        have hst := hU.inv.step hjo
        have hus := hU.us
        rw [usF_step (M + 1) (by omega) hjo _ rfl] at hus
        have hsx := hU.tx _ (List.getElem_mem hjo)
        subst hTs
        obtain ⟨s, hs⟩ : ∃ s, out[j] = s := ⟨_, rfl⟩
        rw [hs] at e1 hst hus hsx
        obtain ⟨m1, hm1⟩ : ∃ m1, (lkS Ts s).getD nil0 = m1 := ⟨_, rfl⟩
        have hse := stepU_eq Ts out s
        rw [hm1] at hse
        rw [hse] at hst hus
        have hi1 : Is wr.heap.size wr m1 := by
          rw [← hm1]
          cases hk : lkS Ts s with
          | none => exact is_nil0 _ _
          | some m0 => exact (h3 _ (lkS_mem hk)).1
        have ht1 : ∀ z ∈ names (walk m1), z.length ≤ 9223372036854775807 := by
          intro z hz
          rw [← hm1] at hz
          cases hk : lkS Ts s with
          | none => rw [hk] at hz; simp only [Option.getD_none, names_nil0] at hz; cases hz
          | some m0 =>
            rw [hk] at hz
            simp only [Option.getD_some] at hz
            obtain ⟨y, hy, rfl⟩ := names_mem _ z hz
            exact rgt_texts (h3 _ (lkS_mem hk)).2.1 y hy
        have hsk : ∀ V : World, Below wr.heap.size wr V → V.cell? ⟨p, 1, none⟩ = some (.map (some mb)) ∧ V.cell? ⟨rb, ro + j, none⟩ = some (.string (Str s)) ∧ (Instr.lookup 107 (.map (some mb)) (.string (Str s)) false).run Tryd.prog V = .ok (nv m1) V := fun V hb => by
          have hN := h1.mod (Mod.of_below hb []) (by simp)
          have hl := hN.look1 s hsx
          rw [hm1] at hl
          exact ⟨cell_block hN.hp 1, (hb.cell (p := ⟨rb, ro + j, none⟩) (Kt.lt_of_cell e1)).trans e1, hl⟩
        have hnms := fun (V : World) (hb : Below wr.heap.size wr V) => names_c0 m1 (walk_len hi1) V (Is.mono hb.size (Is.below hb hi1))
        obtain ⟨xs, hxs⟩ : ∃ xs, names (walk m1) = xs := ⟨_, rfl⟩
        have hx6 : xs.length ≤ 601 := by rw [← hxs]; exact walk601 m1
        rw [hxs] at hnms hst hus ht1
        obtain ⟨N1, hN1⟩ : ∃ N1, xs.length = N1 := ⟨_, rfl⟩
        rw [hN1] at hnms hx6
        obtain ⟨z0, z1, z2⟩ := hsk wr (Below.refl _ _)
        have HSk := Lib.hid hsk
        have HNms := Lib.hid hnms
        have HU := Lib.hid (And.intro hU (And.intro hst (And.intro hus (And.intro ht1 hN1))))
        have hj2 : (j : Int) < (N : Int) := by omega
        have hN3 : N ≤ 30000 := by omega
        clear hsk hnms hU hst hus ht1 hN1 hxs hi1 hse hm1 hs hsx e1 h1 hLe h3 h hIs ht hnv hBl
        go_upto_region 7 with (fail)
        have n0 : Below wr.heap.size wr wr.drew := (Below.refl _ _).drew
        refine wp_region_noPanic ?_
        refine wp_region_held_drew (S := fun V => V.cell? ⟨p, 1, none⟩ = some (.map (some mb)) ∧ V.cell? ⟨rb, ro + j, none⟩ = some (.string (Str s)) ∧ (Instr.lookup 107 (.map (some mb)) (.string (Str s)) false).run Tryd.prog V = .ok (nv m1) V) (by kernel_rfl) (HSk.out _ n0) (fun hHeld => ?_)
        (refine wpAnyH_take (i := 0) (v := ?v0n1) (by simp only [List.getElem?_toArray, List.getElem?_cons_succ, List.getElem?_cons_zero]; rfl) (by kernel_rfl) (by kernel_rfl) (by kernel_rfl) (fun _ _ _ h => False.elim h) (Or.inl ⟨by rfl, ?hy0n1⟩) (by assumption) ?rest0n1; (case hy0n1 => (intro w hSw; (try dsimp only at hSw); go_simp; (try with_reducible rfl))); (try simp only [Act.put, List.setIfInBounds_toArray, List.set_cons_zero, List.set_cons_succ]))
        (refine wpAnyH_take (i := 1) (v := ?v1n2) (by simp only [List.getElem?_toArray, List.getElem?_cons_succ, List.getElem?_cons_zero]; rfl) (by kernel_rfl) (by kernel_rfl) (by kernel_rfl) (fun _ _ _ h => False.elim h) (Or.inl ⟨by rfl, ?hy1n2⟩) (by assumption) ?rest1n2; (case hy1n2 => (intro w hSw; (try dsimp only at hSw); go_simp; (try with_reducible rfl))); (try simp only [Act.put, List.setIfInBounds_toArray, List.set_cons_zero, List.set_cons_succ]))
        (refine wpAnyH_take (i := 2) (v := ?v2n3) (by simp only [List.getElem?_toArray, List.getElem?_cons_succ, List.getElem?_cons_zero]; rfl) (by kernel_rfl) (by kernel_rfl) (by kernel_rfl) (fun _ _ _ h => False.elim h) (Or.inl ⟨by rfl, ?hy2n3⟩) (by assumption) ?rest2n3; (case hy2n3 => (intro w hSw; (try dsimp only at hSw); go_simp; (try with_reducible rfl))); (try simp only [Act.put, List.setIfInBounds_toArray, List.set_cons_zero, List.set_cons_succ]))
        (refine wpAnyH_take (i := 3) (v := ?v3n4) (by simp only [List.getElem?_toArray, List.getElem?_cons_succ, List.getElem?_cons_zero]; rfl) (by kernel_rfl) (by kernel_rfl) (by kernel_rfl) (fun _ _ _ h => False.elim h) (Or.inl ⟨by rfl, ?hy3n4⟩) (by assumption) ?rest3n4; (case hy3n4 => (intro w hSw; (try dsimp only at hSw); go_simp; (try with_reducible rfl))); (try simp only [Act.put, List.setIfInBounds_toArray, List.set_cons_zero, List.set_cons_succ]))
        (refine wpAnyH_take (i := 4) (v := ?v4n5) (by simp only [List.getElem?_toArray, List.getElem?_cons_succ, List.getElem?_cons_zero]; rfl) (by kernel_rfl) (by kernel_rfl) (by kernel_rfl) (fun _ _ _ h => False.elim h) (Or.inl ⟨by rfl, ?hy4n5⟩) (by assumption) ?rest4n5; (case hy4n5 => (intro w hSw; (try dsimp only at hSw); go_simp; (try with_reducible rfl))); (try simp only [Act.put, List.setIfInBounds_toArray, List.set_cons_zero, List.set_cons_succ]))
        (refine wpAnyH_take (i := 5) (v := ?v5n6) (by simp only [List.getElem?_toArray, List.getElem?_cons_succ, List.getElem?_cons_zero]; rfl) (by kernel_rfl) (by kernel_rfl) (by kernel_rfl) (fun _ _ _ h => False.elim h) (Or.inl ⟨by rfl, ?hy5n6⟩) (by assumption) ?rest5n6; (case hy5n6 => (intro w hSw; (try dsimp only at hSw); go_simp; (try with_reducible rfl))); (try simp only [Act.put, List.setIfInBounds_toArray, List.set_cons_zero, List.set_cons_succ]))
        (refine wpAnyH_take (i := 6) (v := ?v6n7) (by simp only [List.getElem?_toArray, List.getElem?_cons_succ, List.getElem?_cons_zero]; rfl) (by kernel_rfl) (by kernel_rfl) (by kernel_rfl) (fun _ _ _ h => False.elim h) (Or.inl ⟨by rfl, ?hy6n7⟩) (by assumption) ?rest6n7; (case hy6n7 => (intro w hSw; (try dsimp only at hSw); go_simp; (try with_reducible rfl))); (try simp only [Act.put, List.setIfInBounds_toArray, List.set_cons_zero, List.set_cons_succ]))
        (refine wpAnyH_take (i := 7) (v := ?v7n8) (by simp only [List.getElem?_toArray, List.getElem?_cons_succ, List.getElem?_cons_zero]; rfl) (by kernel_rfl) (by kernel_rfl) (by kernel_rfl) (fun _ _ _ h => False.elim h) (Or.inl ⟨by rfl, ?hy7n8⟩) (by assumption) ?rest7n8; (case hy7n8 => (intro w hSw; (try dsimp only at hSw); go_simp; (try with_reducible rfl))); (try simp only [Act.put, List.setIfInBounds_toArray, List.set_cons_zero, List.set_cons_succ]))
        (refine wpAnyH_take (i := 8) (v := ?v8n9) (by simp only [List.getElem?_toArray, List.getElem?_cons_succ, List.getElem?_cons_zero]; rfl) (by kernel_rfl) (by kernel_rfl) (by kernel_rfl) (fun _ _ _ h => False.elim h) (Or.inl ⟨by rfl, ?hy8n9⟩) (by assumption) ?rest8n9; (case hy8n9 => (intro w hSw; (try dsimp only at hSw); go_simp; (try with_reducible rfl))); (try simp only [Act.put, List.setIfInBounds_toArray, List.set_cons_zero, List.set_cons_succ]))
        (refine wpAnyH_take (i := 11) (v := ?v11n10) (by simp only [List.getElem?_toArray, List.getElem?_cons_succ, List.getElem?_cons_zero]; rfl) (by kernel_rfl) (by kernel_rfl) (by kernel_rfl) (fun _ _ _ h => False.elim h) (Or.inl ⟨by rfl, ?hy11n10⟩) (by assumption) ?rest11n10; (case hy11n10 => (intro w hSw; (try dsimp only at hSw); go_simp; (try with_reducible rfl))); (try simp only [Act.put, List.setIfInBounds_toArray, List.set_cons_zero, List.set_cons_succ]))
        (refine wpAnyH_ready (rs := [9]) (by kernel_rfl) (by simp) ?_; refine AllReadyH.cons (o := _) (by simp only [List.getElem?_toArray, List.getElem?_cons_succ, List.getElem?_cons_zero]; rfl) (fun K hK => ?_) AllReadyH.nil; go_simp; ((with_reducible refine (HNms.out _ n0).mono ?_); rintro e w8 ⟨v8, rfl, own8, hb8⟩; have n1 := n0.trans (hb8.mono n0.size)); refine hK.out _ _ (by exact HSk.out _ n1) (fun hHeld => ?_); clear hK K; (try simp only [Act.put, List.setIfInBounds_toArray, List.set_cons_zero, List.set_cons_succ]))
        obtain ⟨xa, xc, rfl, _⟩ := rd_own own8
        (refine wpAnyH_take (i := 10) (v := ?v10n11) (by simp only [List.getElem?_toArray, List.getElem?_cons_succ, List.getElem?_cons_zero]; rfl) (by kernel_rfl) (by kernel_rfl) (by kernel_rfl) (fun _ _ _ h => False.elim h) (Or.inl ⟨by rfl, ?hy10n11⟩) (by assumption) ?rest10n11; (case hy10n11 => (intro w hSw; (try dsimp only at hSw); go_simp; (try with_reducible rfl))); (try simp only [Act.put, List.setIfInBounds_toArray, List.set_cons_zero, List.set_cons_succ]))
        refine wpAnyH_done (by kernel_rfl) ?_ _
        refine NoPanic.normal ?_
        obtain ⟨hU, hst, hus, ht1, hN1⟩ := HU.out
        have hst0 : UsN w out xs xa 0 (some ⟨rb, ro, none⟩) N c w8 := by
          refine ⟨hU.ln, own_keep hU.own n1, Rd.own own8, fun q hq e => ?_, hU.hb.trans (n1.mono hU.hb.size)⟩
          have e1 := (hU.own.lt q.block e).2
          subst hq
          have e2 := (own8.lt q.block rfl).1
          have e3 : wr.drew.heap.size = wr.heap.size := rfl
          omega
        have HS0 := Lib.hid hst0
        clear hst0 hU hst hus ht1 hN1 own8 hb8 n0 n1 hHeld z0 z1 z2
        go_wp2_with fail
        go_loopw [5, 8, 31] (fun o _ i V => ∃ (kk N' c' : Nat) (a' : Option Addr), kk ≤ N1 ∧ i = .int .i64 (kk : Int) ∧ o = .slice a' N' c' ∧ UsN w out xs xa kk a' N' c' V) (fun _ _ i _ => N1 - (intOf i).toNat)
        case atStart => exact ⟨0, N, c, _, Nat.zero_le _, rfl, rfl, HS0.out⟩
        case round =>
          obtain ⟨kk, N', c', a', hkk, rfl, rfl, hN⟩ := hrel
          obtain ⟨hU, hst, hus, ht1, hN1⟩ := HU.out
          by_cases hkl : kk < N1
          · have hkx : kk < xs.length := by omega
            obtain ⟨b2, o2, rfl, e2⟩ := hN.rd.map_at kk hkx
            have hat := addL_take out xs kk hkx
            obtain ⟨y, hy⟩ : ∃ y, xs[kk] = y := ⟨_, rfl⟩
            rw [hy] at e2 hat
            have hlen1 := addL_len out (xs.take kk)
            have hN6 : N' ≤ 40000 := by
              have h1 := hN.ln
              have h2 := hU.ln
              rw [List.length_take] at hlen1
              omega
            have hhc := has_c a' c' N' (addL out (xs.take kk)) y wr hN.ln (by omega) (Rd.own hN.own)
            by_cases hin : y ∈ addL out (xs.take kk)
            · rw [if_pos hin] at hat
              rw [decide_eq_true hin] at hhc
              have hre : UsN w out xs (some ⟨b2, o2, none⟩) (kk + 1) a' N' c' wr := by
                refine ⟨?_, ?_, hN.rd, hN.hv, hN.hb⟩
                · rw [hat]; exact hN.ln
                · rw [hat]; exact hN.own
              have HHc := Lib.hid hhc
              have HRe := Lib.hid hre
              have hkl2 : (kk : Int) < (N1 : Int) := by omega
              clear hre hhc hat hN hU hst hus ht1 hN1 hy hlen1
              go_wp2_with fail
              with_reducible refine HHc.out.mono ?_
              rintro e w9 ⟨rfl, rfl⟩
              go_wp2
              go_roundw
              case rel => first | exact ⟨kk + 1, N', c', a', by omega, by go_num, rfl, HRe.out⟩ | ((repeat apply Exists.intro); refine ⟨?r, ?f⟩; (case f => (and_intros <;> rfl)); exact ⟨kk + 1, N', c', a', by omega, by go_num, rfl, HRe.out⟩)
              case measure => simp [intOf]; omega
            · rw [if_neg hin] at hat
              rw [decide_eq_false hin] at hhc
              have b1 : Below wr.heap.size wr (wr.alloc (.cells #[.string (Str y)] 9)) := (Below.refl _ _).alloc (Nat.le_refl _) _
              have ownA := own_keep hN.own b1
              obtain ⟨g', cap, w9, hrun, own9, gr9, hlie, hg9⟩ := (show El Tryd.prog _ _ _ 1 16 from elStr).lies w.heap.size (ty := 38) ownA 1 1 (news := [.string (Str y)]) rfl (by decide) (Rd.new wr #[.string (Str y)] 9 (0, 0) [.string (Str y)] rfl) (by intro u hu; simp at hu; subst hu; rfl) (by unfold maxLen; omega) (by omega) (Nat.le_trans hN.hb.size b1.size)
              have hz1 : (wr.alloc (.cells #[.string (Str y)] 9)).heap.size = wr.heap.size + 1 := by simp
              rw [hz1] at hlie
              have hb2 := Kt.lt_of_cell e2
              have hM9 : Mod (Value.slice a' N' c').ownBlock.toList wr w9 := (Mod.of_below b1 _).grown gr9 (fun q hq => .inl (by simp [hq]))
              have hre : UsN w out xs (some ⟨b2, o2, none⟩) (kk + 1) (some ⟨g', 0, none⟩) (N' + 1) cap w9 := by
                refine ⟨?_, ?_, Rd.mod hN.rd hM9 (fun q hq hm => hN.hv q hq (by simpa using hm)), fun q hq e => ?_, (hN.hb.trans (b1.mono hN.hb.size)).trans (below_grown ownA gr9 (Nat.le_refl _) (Nat.le_trans hN.hb.size b1.size))⟩
                · rw [hat, List.length_append, hN.ln]; rfl
                · rw [hat, strs, List.map_append]; exact own9
                · simp [Value.ownBlock] at e
                  rcases hlie with h | h
                  · exact hN.hv q hq (by rw [h, e])
                  · cases hq
                    simp only at e hb2
                    omega
              have HHc := Lib.hid hhc
              have HRe := Lib.hid hre
              have hkl2 : (kk : Int) < (N1 : Int) := by omega
              clear hre hhc hat hN hU hst hus ht1 hN1 hy hlen1 b1 ownA own9 gr9 hlie hg9 hz1 hb2 hM9
              go_wp2_with fail
              with_reducible refine HHc.out.mono ?_
              rintro e w10 ⟨rfl, rfl⟩
              go_wp2_with (at_builtin; (with_reducible apply wpList_append_run hrun); rfl; rfl; rfl; rfl; rfl)
              go_roundw
              case rel => first | exact ⟨kk + 1, N' + 1, cap, _, by omega, by go_num, rfl, HRe.out⟩ | ((repeat apply Exists.intro); refine ⟨?r, ?f⟩; (case f => (and_intros <;> rfl)); exact ⟨kk + 1, N' + 1, cap, _, by omega, by go_num, rfl, HRe.out⟩)
              case measure => simp [intOf]; omega
          · obtain rfl : kk = N1 := by omega
            have htk : xs.take kk = xs := List.take_of_length_le (by omega)
            have hre : UsO (erB Ts) x w M (j + 1) (addL out xs) a' N' c' wr := by
              have h1 := hN.ln
              have h2 := hN.own
              rw [htk] at h1 h2
              exact ⟨h1, h2, hst, hus, hN.hb, fun z hz => by rcases addL_mem _ _ z hz with h | h; exact hU.tx z h; exact ht1 z h⟩
            have HRe := Lib.hid hre
            have hkl2 : ¬ (kk : Int) < (kk : Int) := by omega
            clear hre hN hU hst hus ht1 hN1 htk
            go_wp2
            go_roundw
            case rel => first | exact ⟨j + 1, N', c', a', _, by go_num, rfl, HRe.out⟩ | ((repeat apply Exists.intro); refine ⟨?r, ?f⟩; (case f => (and_intros <;> rfl)); exact ⟨j + 1, N', c', a', _, by go_num, rfl, HRe.out⟩)
            case measure => simp [intOf]; omega
      · have hfin : UsP B x w (.returned (.slice aa N c)) wr := by
          refine .inr ⟨HR.out, aa, c, N, rfl, ?_, ?_, hU.hb⟩
          · rw [← hU.us, usF_end _ (by omega)]; exact hNo
          · rw [← hU.us, usF_end _ (by omega)]; exact hU.own
        have HFin := Lib.hid hfin
        have hj2 : ¬ (j : Int) < (N : Int) := by omega
        clear hfin hU
        go_wp2
        go_ret
        exact HFin.out
end Bo
end Go.Proofs.YteekonojmpihlaaDoor
