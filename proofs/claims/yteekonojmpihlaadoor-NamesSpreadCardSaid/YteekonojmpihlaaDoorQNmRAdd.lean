import Derived.Test.YteekonojmpihlaaDoorQNmFind
import Derived.Test.YteekonojmpihlaaDoorQNmSp
import Derived.Test.YteekonojmpihlaaDoorQTreeRRt
import Derived.Test.YteekonojmpihlaaDoorQClear
import Derived.Deep.RegionHeld3
/- The document's book: Add. Printed by gen_nmradd.py. -/
namespace Go.Proofs.YteekonojmpihlaaDoor
namespace Kt
end Kt
namespace St
end St
namespace Sp
end Sp
namespace Bk
end Bk
namespace Tr
end Tr
open Go Go.RowKit Kt St Sp Bk Tr
namespace Bo
theorem elD : El Tryd.prog 39 46 (.agg #[.string ⟨#[]⟩, .int .i64 0, .int .u64 0, .int .u64 0, .int .u64 0, .int .u64 0, .slice none 0 0, .int .i64 0, .int .i64 0, .string ⟨#[]⟩]) 10 112 := ⟨Tryd.underlying39, info_parts (by kernel_rfl), rfl, by decide⟩
theorem dflat_len (Ts : Bks) (h : ∀ x ∈ Ts, x.2.set.length = 4) : (Ts.flatMap dcells).length = Ts.length * 10 := by
  induction Ts with
  | nil => rfl
  | cons x r ih =>
    rw [List.flatMap_cons, List.length_append, dcells_len x (h x (by simp)), ih (fun m hm => h m (by simp [hm])), List.length_cons]
    omega
theorem dflat_one (Ts : Bks) : ∀ u ∈ Ts.flatMap dcells, u.oneCell' = true := by
  intro u hu
  obtain ⟨x, _, hx⟩ := List.mem_flatMap.1 hu
  exact dcells_one x u hx
/-- 'append([]Def{}, xs...)'. -/
theorem appD1 (b0 : Nat) (U : World) (z m c : Nat) (a : Option Addr) (Ts : Bks) (own0 : U.ownsRow b0 46 10 (.slice (some ⟨z, 0, none⟩) 0 0) 0 []) (hb : b0 ≤ U.heap.size) (hl : Ts.length = m) (hm : m ≤ 1000) (hs : ∀ x ∈ Ts, x.2.set.length = 4) (hr : Rd U a (Ts.flatMap dcells)) (hno : a = none → c = 0) :
    ∃ a1 c1 w1, (Builtin.append_ #[39, 39] 39 #[.slice (some ⟨z, 0, none⟩) 0 0, .slice a m c]).run Tryd.prog U = .ok (.slice a1 m c1) w1 ∧ w1.ownsRow b0 46 10 (.slice a1 m c1) m (Ts.flatMap dcells) ∧ Mod [z] U w1 ∧ Below b0 U w1 := by
  obtain ⟨v1, w1, hrun1, own1, gr1, _⟩ := elD.append b0 (ty := 39) own0 m c (by rw [dflat_len Ts hs, hl]) hr hno (dflat_one _) (by unfold maxLen; omega) (by omega) hb
  simp only [Nat.zero_add, List.nil_append] at hrun1 own1
  obtain ⟨a1, c1, rfl, _⟩ := rd_own own1
  exact ⟨a1, c1, w1, hrun1, own1, (Mod.refl [z] U).grown gr1 (fun k hk => .inl (by simp [Value.ownBlock] at hk; simp [hk])), below_grown own0 gr1 (Nat.le_refl _) hb⟩
/-- 'append(.., x)'. -/
theorem appD2 (b0 : Nat) (U : World) (y m c1 : Nat) (a1 : Option Addr) (Ts : Bks) (x : List UInt8 × Nd) (own1 : U.ownsRow b0 46 10 (.slice a1 m c1) m (Ts.flatMap dcells)) (hb : b0 ≤ U.heap.size) (hm : m ≤ 1000) (hx : x.2.set.length = 4) (hr : Rd U (some ⟨y, 0, none⟩) (dcells x)) :
    ∃ av c2 w2, (Builtin.append_ #[39, 39] 39 #[.slice a1 m c1, .slice (some ⟨y, 0, none⟩) 1 1]).run Tryd.prog U = .ok (.slice av (m + 1) c2) w2 ∧ w2.ownsRow b0 46 10 (.slice av (m + 1) c2) (m + 1) ((Ts ++ [x]).flatMap dcells) ∧ Below b0 U w2 := by
  obtain ⟨v2, w2, hrun2, own2, gr2, _⟩ := elD.append b0 (ty := 39) own1 1 1 (by rw [dcells_len x hx]) hr (fun h => by cases h) (dcells_one x) (by unfold maxLen; omega) (by omega) hb
  obtain ⟨av, c2, rfl, _⟩ := rd_own own2
  exact ⟨av, c2, w2, hrun2, by rw [List.flatMap_append]; simpa using own2, below_grown own1 gr2 (Nat.le_refl _) hb⟩
/-- What the document's Add answers. -/
def RaP (q : Nat) (X : List Nat) (M : Bks) (s : List UInt8) (n : Nd) (w : World) (e : Ending) (w' : World) : Prop :=
  e = .returned (.int .i64 (addE M s n)) ∧ RK w' q X (add M s n) ∧ Mod [q] w w'
theorem RaP.no {q : Nat} {X : List Nat} {M : Bks} {s : List UInt8} {n : Nd} {w w' : World} (h : RK w q X M) (v : Int) (hv : addE M s n = v) (h0 : v ≠ 0) (hB : Below w.heap.size w w') : RaP q X M s n w (.returned (.int .i64 v)) w' := by
  subst hv
  refine ⟨rfl, ?_, Mod.of_below hB _⟩
  rw [add, if_neg h0]
  exact h.below hB
/-- The last step: the new row is set. -/
theorem RaP.yes {q c n : Nat} {X : List Nat} {Ts : Bks} {a av : Option Addr} {c2 : Nat} {s : List UInt8} {x : Nd} {w w5 w2 : World} (h : RB w q a c n X Ts) (hX : ∀ b ∈ X, b < w.heap.size) (hv : addE (erB Ts) s x = 0) (hB : Below w.heap.size w w5) (hn : n < 32) (hIs : Is w.heap.size w x) (hxq : Bl (· ∉ q :: X) x) (hrg : rgt x = true)
    (own : w2.ownsRow w5.heap.size 46 10 (.slice av (n + 1) c2) (n + 1) ((Ts ++ [(s, x)]).flatMap dcells)) (hb2 : Below w5.heap.size w5 w2) :
    RaP q X (erB Ts) s x w (.returned (.int .i64 0)) (w2.setCell ⟨q, 0, none⟩ (.slice av (n + 1) c2)) := by
  have hB2 : Below w.heap.size w w2 := hB.trans (hb2.mono hB.size)
  have hM2 : Mod [q] w2 (w2.setCell ⟨q, 0, none⟩ (.slice av (n + 1) c2)) := (Mod.refl [q] w2).setCell (.inl (by simp)) _
  have hq := block_lt h.hq
  have hz := hB.size
  have hM : Mod [q] w (w2.setCell ⟨q, 0, none⟩ (.slice av (n + 1) c2)) := (Mod.of_below hB2 _).trans hM2 (fun k hk => .inl hk)
  obtain ⟨a', c', he, e1, e2, e3, e4⟩ := rd_own own
  simp only [Value.slice.injEq] at he
  obtain ⟨rfl, _, rfl⟩ := he
  have hrow : ∀ p, av = some p → w5.heap.size ≤ p.block := fun p hp => (e4 p hp).1
  refine ⟨by rw [hv], ⟨av, c2, n + 1, Ts ++ [(s, x)], ⟨?_, ?_, by simp [h.hn], ⟨e1, e2, fun hn => by subst hn; exact (own_none own).1⟩, fun p hp _ hm => ?_, by omega, fun y hy => ?_⟩, ?_⟩, hM⟩
  · have hp2 := (hB2.block q hq).trans h.hq
    rw [block_setCell (i := 0) (show _ = some (Obj.cells _ _ _) from hp2)]
    simp only [List.setIfInBounds_toArray, List.set_cons_zero]
  · exact Rd.mod e3 hM2 (fun p hp => by have := hrow p hp; simp; omega)
  · have h1 := hrow p hp
    rcases List.mem_cons.1 hm with h2 | h2
    · omega
    · have := hX _ h2; omega
  · rcases List.mem_append.1 hy with hy | hy
    · exact (h.ht.mod hM (fun b hb => .inl (by simp at hb; simp [hb]))) y hy
    · simp only [List.mem_singleton] at hy
      subst hy
      exact ⟨is_mod hIs hxq hM (fun b hb => .inl fun hn => hn (by simp at hb; simp [hb])), hrg, hxq⟩
  · rw [add, if_pos hv]
    simp [erB]
set_option maxRecDepth 100000 in
set_option maxHeartbeats 2000000 in
theorem radd_c (q : Nat) (X : List Nat) (M : Bks) (s : List UInt8) (hs : s.length ≤ 9223372036854775807) (x : Nd) (ht : ∀ y ∈ walk x, y.1.text.length ≤ 9223372036854775807) (w : World) (hIs : Is w.heap.size w x) (hxq : Bl (· ∉ q :: X) x) (h : RK w q X M) (hX : ∀ b ∈ X, b < w.heap.size) :
    Calls Tryd.prog 61 #[.pointer (some ⟨q, 0, none⟩), .string (Str s), nv x] w (RaP q X M s x w) := by
  have hno := fun v w' => RaP.no (s := s) (n := x) (w' := w') h v
  obtain ⟨a, c, n, Ts, h1, rfl⟩ := h.ex
  obtain ⟨x0, x1, x2, x3, hx⟩ := four' hIs.len
  obtain ⟨k, mn, mx, b, nl, cc, t, hnv, hcel⟩ := nv_explicit hx
  obtain ⟨B4, hB4⟩ : ∃ B4, Obj.cells #[.int .i64 k, .int .u64 (x0 : Int), .int .u64 (x1 : Int), .int .u64 (x2 : Int), .int .u64 (x3 : Int), .slice b nl cc, .int .i64 mn, .int .i64 mx, .string (Str t)] 44 (0, 0) = B4 := ⟨_, rfl⟩
  have hB : Below w.heap.size w (w.alloc B4) := (Below.refl _ w).alloc (Nat.le_refl _) _
  have l4 : (w.alloc B4).heap[w.heap.size]? = some B4 := World.alloc_heap_new w B4
  obtain ⟨W3, hW3⟩ : ∃ W3, w.alloc B4 = W3 := ⟨_, rfl⟩
  have z3 : W3.heap.size = w.heap.size + 1 := by rw [← hW3]; simp
  rw [hW3] at l4 hB
  rw [← hB4] at hW3 l4
  clear hB4 B4
  have hnm := fun W => Ac.risname_c s hs W
  have hrt := rright_c x ht W3 (Is.mono hB.size (Is.below hB hIs))
  have hfi := fun (W : World) (hb : Below w.heap.size w W) => rfind_c q a c n X Ts s W (h1.mod (Mod.of_below hb []) (by simp))
  rw [hnv] at hrt ⊢
  have HI := Lib.hid (And.intro hIs (And.intro hxq (And.intro h1 hX)))
  have HB := Lib.hid hB
  have HZ := Lib.hid z3
  have HL := Lib.hid l4
  have HW3 := Lib.hid hW3
  have HFi := Lib.hid hfi
  have HC := Lib.hid hcel
  have r5 := hno 5
  have r4 := hno 4
  have r6 := hno 6
  have r13 := hno 13
  have hln : (erB Ts).length = n := by simp [erB, h1.hn]
  by_cases c5 : Ac.nm s = false
  · have R := Lib.hid (fun w' => r5 w' (by rw [addE, if_pos c5]) (by decide))
    rw [c5] at hnm
    have HNm := Lib.hid hnm
    clear hnm hrt r5 r4 r6 r13 hfi hcel hnv hx h1 h hIs ht hxq hX hW3 l4 z3 hB hln hno
    go_enter Tryd.func61, Tryd.ntmps61
    go_upto_region 1 with (fail)
    rw [HW3.out]
    go_wp2_with fail
    with_reducible refine (HNm.out _).mono ?_
    rintro e w4 ⟨rfl, rfl⟩
    go_wp2
    go_ret
    exact R.out _ HB.out
  · have c5' : Ac.nm s = true := by simpa using c5
    rw [c5'] at hnm
    have HNm := Lib.hid hnm
    obtain ⟨u0, u1, u2, u3, u4, u5, u6, u7, u8⟩ := nd_cells l4
    by_cases c4 : rgt x = false
    · have R := Lib.hid (fun w' => r4 w' (by rw [addE, if_neg c5, if_pos c4]) (by decide))
      rw [c4] at hrt
      have HRt := Lib.hid hrt
      clear hnm hrt r5 r4 r6 r13 hfi hcel hnv hx h1 h hIs ht hxq hX hW3 l4 z3 hB hln hno
      go_enter Tryd.func61, Tryd.ntmps61
      go_upto_region 1 with (fail)
      rw [HW3.out]
      go_wp2_with fail
      with_reducible refine (HNm.out _).mono ?_
      rintro e w4 ⟨rfl, rfl⟩
      go_wp2_with fail
      with_reducible refine HRt.out.mono ?_
      rintro e w4 ⟨rfl, hb4⟩
      go_wp2
      go_ret
      exact R.out _ (HB.out.trans (hb4.mono HB.out.size))
    · have c4' : rgt x = true := by simpa using c4
      rw [c4'] at hrt
      have HRt := Lib.hid hrt
      have HRs := Lib.hid (And.intro r6 (And.intro r13 hln))
      clear hnm hrt r5 r4 r6 r13 hfi hcel hnv hx h1 h hIs ht hxq hX hW3 l4 z3 hB hln hno
      go_enter Tryd.func61, Tryd.ntmps61
      go_upto_region 1 with (fail)
      rw [HW3.out]
      go_wp2_with fail
      with_reducible refine (HNm.out _).mono ?_
      rintro e w4 ⟨rfl, rfl⟩
      go_wp2_with fail
      with_reducible refine HRt.out.mono ?_
      rintro e w4 ⟨rfl, hb4⟩
      have hBB := HB.out.trans (hb4.mono HB.out.size)
      clear u0 u1 u2 u3 u4 u5 u6 u7 u8
      go_wp2_with fail
      with_reducible refine (HFi.out w4 hBB).mono ?_
      rintro e w5 ⟨r, rfl, hfp, hb5⟩
      have hB5 := hBB.trans (hb5.mono hBB.size)
      rcases hfp with ⟨rfl, hnone⟩ | ⟨j, hj, rfl, _, hsome⟩
      · have c6 : ¬ lkS (erB Ts) s ≠ none := by rw [lkS_er, hnone]; simp
        have k0 := cell_block (HI.out.2.2.1.mod (Mod.of_below hB5 []) (by simp)).hq 0
        simp only [List.getElem?_toArray, List.getElem?_cons_zero, List.getElem?_cons_succ] at k0
        by_cases c13 : 32 ≤ n
        · have hre := HRs.out.2.1 w5 (by rw [addE, if_neg c5, if_neg c4, if_neg c6, if_pos (by rw [HRs.out.2.2]; exact c13)]) (by decide) hB5
          have hc13 : (32 : Int) ≤ (n : Int) := by omega
          have HRe := Lib.hid hre
          clear hre
          go_wp2
          go_ret
          exact HRe.out
        · have hv : addE (erB Ts) s x = 0 := by rw [addE, if_neg c5, if_neg c4, if_neg c6, if_neg (by rw [HRs.out.2.2]; exact c13)]
          have c13' : ¬ (32 : Int) ≤ (n : Int) := by omega
          have c13'' : (n : Int) < 32 := by omega
          have hRB := HI.out.2.2.1.mod (Mod.of_below hB5 []) (by simp)
          have l45 := (hb5.block _ (Nat.lt_of_lt_of_le (block_lt HL.out) hb4.size)).trans ((hb4.block _ (block_lt HL.out)).trans HL.out)
          have sk : ∀ V : World, Below w5.heap.size w5 V → V.cell? ⟨q, 0, none⟩ = some (.slice a n c) ∧ (V.cell? ⟨w.heap.size, 0, none⟩ = some (.int .i64 k) ∧ V.cell? ⟨w.heap.size, 1, none⟩ = some (.int .u64 (x0 : Int)) ∧ V.cell? ⟨w.heap.size, 2, none⟩ = some (.int .u64 (x1 : Int)) ∧ V.cell? ⟨w.heap.size, 3, none⟩ = some (.int .u64 (x2 : Int)) ∧ V.cell? ⟨w.heap.size, 4, none⟩ = some (.int .u64 (x3 : Int)) ∧ V.cell? ⟨w.heap.size, 5, none⟩ = some (.slice b nl cc) ∧ V.cell? ⟨w.heap.size, 6, none⟩ = some (.int .i64 mn) ∧ V.cell? ⟨w.heap.size, 7, none⟩ = some (.int .i64 mx) ∧ V.cell? ⟨w.heap.size, 8, none⟩ = some (.string (Str t))) := fun V hb => ⟨cell_block ((hb.block _ (block_lt hRB.hq)).trans hRB.hq) 0, nd_cells ((hb.block _ (block_lt l45)).trans l45)⟩
          have hset : ∀ y ∈ Ts, y.2.set.length = 4 := fun y hy => (hRB.ht y hy).1.len
          have hdc : dcells (s, x) = [.string (Str s), .int .i64 k, .int .u64 (x0 : Int), .int .u64 (x1 : Int), .int .u64 (x2 : Int), .int .u64 (x3 : Int), .slice b nl cc, .int .i64 mn, .int .i64 mx, .string (Str t)] := by show Value.string (Str s) :: cells x = _; rw [HC.out]
          have hyes := fun (av : Option Addr) (c2 : Nat) (w2 : World) => @RaP.yes q c n X Ts a av c2 s x w w5 w2 HI.out.2.2.1 HI.out.2.2.2 hv hB5 (by omega) HI.out.1 HI.out.2.1 c4'
          have hA1 := fun (U : World) (z : Nat) (own0 : U.ownsRow w5.heap.size 46 10 (.slice (some ⟨z, 0, none⟩) 0 0) 0 []) (hbU : Below w5.heap.size w5 U) => appD1 w5.heap.size U z n c a Ts own0 hbU.size hRB.hn (by omega) hset (hRB.hr.keep hbU) hRB.hc.2.2
          have hA2 := fun (U : World) (y c1 : Nat) (a1 : Option Addr) (own1 : U.ownsRow w5.heap.size 46 10 (.slice a1 n c1) n (Ts.flatMap dcells)) (hb : w5.heap.size ≤ U.heap.size) (hr : Rd U (some ⟨y, 0, none⟩) (dcells (s, x))) => appD2 w5.heap.size U y n c1 a1 Ts (s, x) own1 hb (by omega) HI.out.1.len hr
          have hqf := fun (V : World) (hb : Below w5.heap.size w5 V) => frozen_block ((hb.block _ (block_lt hRB.hq)).trans hRB.hq) 0
          have HSk := Lib.hid sk
          have HA1 := Lib.hid hA1
          have HA2 := Lib.hid hA2
          have HY := Lib.hid hyes
          have HQf := Lib.hid hqf
          have HDc := Lib.hid hdc
          have ks := sk w5 (Below.refl _ _)
          obtain ⟨s0, s1, s2, s3, s4, s5, s6, s7, s8, s9⟩ := ks
          -- the three ways
          have own00 : ((w5.alloc (.cells #[] 46)).drew).ownsRow w5.heap.size 46 10 (.slice (some ⟨w5.heap.size, 0, none⟩) 0 0) 0 [] := World.ownsRow_made (base := w5.heap.size) (e := 46) (size := 10) w5 #[] 0 (Nat.le_refl _) (by decide) rfl
          have z5 : (w5.alloc (.cells #[] 46)).heap.size = w5.heap.size + 1 := by simp
          have z5' : (w5.alloc (.cells #[.string (Str s), .int .i64 k, .int .u64 (x0 : Int), .int .u64 (x1 : Int), .int .u64 (x2 : Int), .int .u64 (x3 : Int), .slice b nl cc, .int .i64 mn, .int .i64 mx, .string (Str t)] 46)).heap.size = w5.heap.size + 1 := by simp
          have bA : Below w5.heap.size w5 (w5.alloc (.cells #[] 46)).drew := ((Below.refl _ _).alloc (Nat.le_refl _) _).drew
          have bX : Below w5.heap.size w5 (w5.alloc (.cells #[.string (Str s), .int .i64 k, .int .u64 (x0 : Int), .int .u64 (x1 : Int), .int .u64 (x2 : Int), .int .u64 (x3 : Int), .slice b nl cc, .int .i64 mn, .int .i64 mx, .string (Str t)] 46)).drew := ((Below.refl _ _).alloc (Nat.le_refl _) _).drew
          have bB : Below w5.heap.size w5 ((w5.alloc (.cells #[] 46)).alloc (.cells #[.string (Str s), .int .i64 k, .int .u64 (x0 : Int), .int .u64 (x1 : Int), .int .u64 (x2 : Int), .int .u64 (x3 : Int), .slice b nl cc, .int .i64 mn, .int .i64 mx, .string (Str t)] 46)).drew := (((Below.refl _ _).alloc (Nat.le_refl _) _).alloc (by simp) _).drew
          have bC : Below w5.heap.size w5 ((w5.alloc (.cells #[.string (Str s), .int .i64 k, .int .u64 (x0 : Int), .int .u64 (x1 : Int), .int .u64 (x2 : Int), .int .u64 (x3 : Int), .slice b nl cc, .int .i64 mn, .int .i64 mx, .string (Str t)] 46)).alloc (.cells #[] 46)).drew := (((Below.refl _ _).alloc (Nat.le_refl _) _).alloc (by simp) _).drew
          obtain ⟨aA, cA, wA, runA, ownA, modA, belA⟩ := hA1 _ w5.heap.size own00 bA
          have bA1 := bA.trans (belA.mono (Nat.le_refl _))
          have ownA' := ownA.alloc (.cells #[.string (Str s), .int .i64 k, .int .u64 (x0 : Int), .int .u64 (x1 : Int), .int .u64 (x2 : Int), .int .u64 (x3 : Int), .slice b nl cc, .int .i64 mn, .int .i64 mx, .string (Str t)] 46)
          obtain ⟨aA2, cA2, wA2, runA2, ownA2, belA2⟩ := hA2 _ wA.heap.size cA aA ownA' (by simp; have := bA1.size; omega) (Rd.new _ _ _ _ _ (by rw [hdc]))
          have bA1' := bA1.alloc bA1.size (.cells #[.string (Str s), .int .i64 k, .int .u64 (x0 : Int), .int .u64 (x1 : Int), .int .u64 (x2 : Int), .int .u64 (x3 : Int), .slice b nl cc, .int .i64 mn, .int .i64 mx, .string (Str t)] 46)
          have bA2 := bA1'.trans belA2
          have own0B : (((w5.alloc (.cells #[] 46)).alloc (.cells #[.string (Str s), .int .i64 k, .int .u64 (x0 : Int), .int .u64 (x1 : Int), .int .u64 (x2 : Int), .int .u64 (x3 : Int), .slice b nl cc, .int .i64 mn, .int .i64 mx, .string (Str t)] 46)).drew).ownsRow w5.heap.size 46 10 (.slice (some ⟨w5.heap.size, 0, none⟩) 0 0) 0 [] := (World.ownsRow_made (base := w5.heap.size) (e := 46) (size := 10) w5 #[] 0 (Nat.le_refl _) (by decide) rfl).alloc _
          obtain ⟨aB, cB, wB, runB, ownB, modB, belB⟩ := hA1 _ w5.heap.size own0B bB
          have bB1 := bB.trans belB
          have rdB : Rd ((w5.alloc (.cells #[] 46)).alloc (.cells #[.string (Str s), .int .i64 k, .int .u64 (x0 : Int), .int .u64 (x1 : Int), .int .u64 (x2 : Int), .int .u64 (x3 : Int), .slice b nl cc, .int .i64 mn, .int .i64 mx, .string (Str t)] 46)).drew (some ⟨w5.heap.size + 1, 0, none⟩) (dcells (s, x)) := by
            have := Rd.new (w5.alloc (.cells #[] 46)) #[.string (Str s), .int .i64 k, .int .u64 (x0 : Int), .int .u64 (x1 : Int), .int .u64 (x2 : Int), .int .u64 (x3 : Int), .slice b nl cc, .int .i64 mn, .int .i64 mx, .string (Str t)] 46 (0, 0) (dcells (s, x)) (by rw [hdc])
            rw [z5] at this
            exact this
          obtain ⟨aB2, cB2, wB2, runB2, ownB2, belB2⟩ := hA2 _ (w5.heap.size + 1) cB aB ownB bB1.size (rdB.mod modB (fun p hp => by simp only [Option.some.injEq] at hp; subst hp; simp))
          have bB2 := bB1.trans belB2
          have own0C : (((w5.alloc (.cells #[.string (Str s), .int .i64 k, .int .u64 (x0 : Int), .int .u64 (x1 : Int), .int .u64 (x2 : Int), .int .u64 (x3 : Int), .slice b nl cc, .int .i64 mn, .int .i64 mx, .string (Str t)] 46)).alloc (.cells #[] 46)).drew).ownsRow w5.heap.size 46 10 (.slice (some ⟨w5.heap.size + 1, 0, none⟩) 0 0) 0 [] := by
            have := World.ownsRow_made (base := w5.heap.size) (e := 46) (size := 10) (w5.alloc (.cells #[.string (Str s), .int .i64 k, .int .u64 (x0 : Int), .int .u64 (x1 : Int), .int .u64 (x2 : Int), .int .u64 (x3 : Int), .slice b nl cc, .int .i64 mn, .int .i64 mx, .string (Str t)] 46)) #[] 0 (by simp) (by decide) rfl
            rw [z5'] at this
            exact this
          obtain ⟨aC, cC, wC, runC, ownC, modC, belC⟩ := hA1 _ (w5.heap.size + 1) own0C bC
          have bC1 := bC.trans belC
          have rdC : Rd ((w5.alloc (.cells #[.string (Str s), .int .i64 k, .int .u64 (x0 : Int), .int .u64 (x1 : Int), .int .u64 (x2 : Int), .int .u64 (x3 : Int), .slice b nl cc, .int .i64 mn, .int .i64 mx, .string (Str t)] 46)).alloc (.cells #[] 46)).drew (some ⟨w5.heap.size, 0, none⟩) (dcells (s, x)) := (Rd.new w5 #[.string (Str s), .int .i64 k, .int .u64 (x0 : Int), .int .u64 (x1 : Int), .int .u64 (x2 : Int), .int .u64 (x3 : Int), .slice b nl cc, .int .i64 mn, .int .i64 mx, .string (Str t)] 46 (0, 0) (dcells (s, x)) (by rw [hdc])).alloc _
          obtain ⟨aC2, cC2, wC2, runC2, ownC2, belC2⟩ := hA2 _ w5.heap.size cC aC ownC bC1.size (rdC.mod modC (fun p hp => by simp only [Option.some.injEq] at hp; subst hp; simp))
          have bC2 := bC1.trans belC2
          have HReA := Lib.hid (hyes aA2 cA2 wA2 ownA2 bA2)
          have HReB := Lib.hid (hyes aB2 cB2 wB2 ownB2 bB2)
          have HReC := Lib.hid (hyes aC2 cC2 wC2 ownC2 bC2)
          have HBs := Lib.hid (And.intro bA (And.intro bX (And.intro bB (And.intro bC (And.intro bA1 (And.intro bA1' (And.intro bA2 (And.intro bB1 (And.intro bB2 (And.intro bC1 bC2))))))))))
          have HsA := Lib.hid (sk wA2 bA2)
          have HsB := Lib.hid (sk wB2 bB2)
          have HsC := Lib.hid (sk wC2 bC2)
          obtain ⟨m0, m1, m2, m3, m4, m5, m6, m7, m8, m9⟩ := sk wA bA1
          obtain ⟨k0, k1, k2, k3, k4, k5, k6, k7, k8, k9⟩ := sk wB bB1
          obtain ⟨l0, l1, l2, l3, l4, l5, l6, l7, l8, l9⟩ := sk wC bC1
          obtain ⟨i0, i1, i2, i3, i4, i5, i6, i7, i8, i9⟩ := sk (w5.alloc (.cells #[] 46)) ((Below.refl _ _).alloc (Nat.le_refl _) _)
          obtain ⟨j0, j1, j2, j3, j4, j5, j6, j7, j8, j9⟩ := sk (w5.alloc (.cells #[.string (Str s), .int .i64 k, .int .u64 (x0 : Int), .int .u64 (x1 : Int), .int .u64 (x2 : Int), .int .u64 (x3 : Int), .slice b nl cc, .int .i64 mn, .int .i64 mx, .string (Str t)] 46)) ((Below.refl _ _).alloc (Nat.le_refl _) _)
          obtain ⟨o0, o1, o2, o3, o4, o5, o6, o7, o8, o9⟩ := sk ((w5.alloc (.cells #[] 46)).alloc (.cells #[.string (Str s), .int .i64 k, .int .u64 (x0 : Int), .int .u64 (x1 : Int), .int .u64 (x2 : Int), .int .u64 (x3 : Int), .slice b nl cc, .int .i64 mn, .int .i64 mx, .string (Str t)] 46)) (((Below.refl _ _).alloc (Nat.le_refl _) _).alloc (by simp) _)
          obtain ⟨p0, p1, p2, p3, p4, p5, p6, p7, p8, p9⟩ := sk ((w5.alloc (.cells #[.string (Str s), .int .i64 k, .int .u64 (x0 : Int), .int .u64 (x1 : Int), .int .u64 (x2 : Int), .int .u64 (x3 : Int), .slice b nl cc, .int .i64 mn, .int .i64 mx, .string (Str t)] 46)).alloc (.cells #[] 46)) (((Below.refl _ _).alloc (Nat.le_refl _) _).alloc (by simp) _)
          obtain ⟨v0, v1, v2, v3, v4, v5, v6, v7, v8, v9⟩ := sk (wA.alloc (.cells #[.string (Str s), .int .i64 k, .int .u64 (x0 : Int), .int .u64 (x1 : Int), .int .u64 (x2 : Int), .int .u64 (x3 : Int), .slice b nl cc, .int .i64 mn, .int .i64 mx, .string (Str t)] 46)) bA1'
          have fA := hqf wA2 bA2
          have fB := hqf wB2 bB2
          have fC := hqf wC2 bC2
          have gA := (sk wA2 bA2).1
          have gB := (sk wB2 bB2).1
          have gC := (sk wC2 bC2).1
          clear hyes hA1 hA2 sk hqf own00 own0B own0C ownA ownA' ownA2 ownB ownB2 ownC ownC2 modA modB modC belA belA2 belB belB2 belC belC2 rdB rdC bA bX bB bC bA1 bA1' bA2 bB1 bB2 bC1 bC2 hdc hset hRB l45 hv hB5 hb5 hb4 hBB hnone c6 z5 z5' k0
          go_upto_region 9 with (fail)
          go_region_law (first | ((with_reducible apply step_append_run runA); rfl; rfl; rfl; rfl; rfl) | ((with_reducible apply step_append_run runA2); rfl; rfl; rfl; rfl; rfl) | ((with_reducible apply step_append_run runB); rfl; rfl; rfl; rfl; rfl) | ((with_reducible apply step_append_run runB2); rfl; rfl; rfl; rfl; rfl) | ((with_reducible apply step_append_run runC); rfl; rfl; rfl; rfl; rfl) | ((with_reducible apply step_append_run runC2); rfl; rfl; rfl; rfl; rfl))
          all_goals
            go_wp2
            go_ret
            first | exact HReA.out | exact HReB.out | exact HReC.out
      · have c6 : lkS (erB Ts) s ≠ none := by rw [lkS_er, hsome]; simp
        have hre := HRs.out.1 w5 (by rw [addE, if_neg c5, if_neg c4, if_pos c6]) (by decide) hB5
        have hj0 : (0 : Int) ≤ (j : Int) := by omega
        have HRe := Lib.hid hre
        clear hre
        go_wp2
        go_ret
        exact HRe.out
end Bo
end Go.Proofs.YteekonojmpihlaaDoor
