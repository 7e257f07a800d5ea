import Derived.Test.YteekonojmpihlaaDoorQNmRnames
import Derived.Test.YteekonojmpihlaaDoorQNmFind
/- The document's book: Uses. -/
namespace Go.Proofs.YteekonojmpihlaaDoor
namespace Kt
end Kt
namespace St
end St
namespace Sp
end Sp
namespace Bk
end Bk
namespace Tr
end Tr
open Go Go.RowKit Kt St Sp Bk Tr
namespace Bo
/-- What it answers. -/
def RuP (B : Bks) (x : Nd) (w : World) (e : Ending) (w' : World) : Prop := ∃ a c N, e = .returned (.slice a N c) ∧ (uses B (er x)).length = N ∧ Rd w' a (strs (uses B (er x))) ∧ Below w.heap.size w w'
/-- Where its loop stands. -/
structure RuO (B : Bks) (x : Nd) (w : World) (M i : Nat) (out : List (List UInt8)) (a : Option Addr) (N c : Nat) (W : World) : Prop where
  ln : out.length = N
  rd : Rd W a (strs out)
  no : a = none → c = 0
  inv : UsI B (er x) i out
  us : usF B (M + 1 - i) i out = uses B (er x)
  hb : Below w.heap.size w W
theorem stepU_none {Ts : Bks} {out : List (List UInt8)} {s : List UInt8} (h : lkS Ts s = none) : stepU (erB Ts) out s = out := by
  unfold stepU
  rw [lkS_er, h]
  rfl
theorem stepU_some {Ts : Bks} {out : List (List UInt8)} {s : List UInt8} {m : Nd} (h : lkS Ts s = some m) : stepU (erB Ts) out s = addN out (walk m) := by
  rw [stepU_eq, h, Option.getD_some, addL_names]
set_option maxRecDepth 100000 in
set_option maxHeartbeats 2000000 in
theorem ruses_c (q : Nat) (X : List Nat) (B : Bks) (x : Nd) (w : World) (hIs : Is w.heap.size w x) (h : RK w q X B) :
    Calls Tryd.prog 29 #[.pointer (some ⟨q, 0, none⟩), nv x] w (RuP B x w) := by
  obtain ⟨ra, rc, rn, Ts, hRB, rfl⟩ := h.ex
  have hBl : (erB Ts).length ≤ 32 := by have := hRB.le; have := hRB.hn; simp [erB]; omega
  obtain ⟨x0, x1, x2, x3, hx⟩ := four' hIs.len
  obtain ⟨k, mn, mx, a, nl, cc, t, hnv, _⟩ := nv_explicit hx
  obtain ⟨W2, hW2⟩ : ∃ W2, (w.alloc (.cells #[.int .i64 k, .int .u64 (x0 : Int), .int .u64 (x1 : Int), .int .u64 (x2 : Int), .int .u64 (x3 : Int), .slice a nl cc, .int .i64 mn, .int .i64 mx, .string (Str t)] 44 (0, 0))).alloc (.cells #[] 9) = W2 := ⟨_, rfl⟩
  have hB : Below w.heap.size w W2 := by rw [← hW2]; exact ((Below.refl _ _).alloc (Nat.le_refl _) _).alloc (by simp) _
  have l2 : W2.heap[w.heap.size]? = some (.cells #[.int .i64 k, .int .u64 (x0 : Int), .int .u64 (x1 : Int), .int .u64 (x2 : Int), .int .u64 (x3 : Int), .slice a nl cc, .int .i64 mn, .int .i64 mx, .string (Str t)] 44 (0, 0)) := by rw [← hW2]; exact block_alloc (World.alloc_heap_new _ _)
  have hnm := rnames_c [] 0 (some ⟨w.heap.size + 1, 0, none⟩) 0 x W2 (Is.mono hB.size (Is.below hB hIs)) rfl (by decide) (Rd.nil _ _) (fun h => by cases h)
  rw [hnv] at hnm ⊢
  obtain ⟨M, hM⟩ : ∃ M, (allN (erB Ts) (er x)).length = M := ⟨_, rfl⟩
  have hM3 : M ≤ 30000 := by rw [← hM]; exact allN_le (erB Ts) (er x) hBl
  obtain ⟨u0, u1, u2, u3, u4, u5, u6, u7, u8⟩ := nd_cells l2
  have HM := Lib.hid hM
  have HNm := Lib.hid hnm
  have HB := Lib.hid hB
  have HW2 := Lib.hid hW2
  have HRB := Lib.hid hRB
  rw [← hW2] at u0 u1 u2 u3 u4 u5 u6 u7 u8
  clear hnm hB hW2 l2 hIs h hRB hnv hx hBl hM
  go_enter Tryd.func29, Tryd.ntmps29
  go_wp2_with fail
  rw [HW2.out]
  with_reducible refine HNm.out.mono ?_
  rintro e w3 ⟨la, lc, N0, rfl, hln, hrd, hno, hb3⟩
  clear u0 u1 u2 u3 u4 u5 u6 u7 u8
  have hnn : addN [] (walk x) = names (walk x) := rfl
  rw [hnn] at hln hrd
  have hst : RuO (erB Ts) x w M 0 (names (walk x)) la N0 lc w3 := by
    refine ⟨hln, hrd, hno, ?_, ?_, HB.out.trans (hb3.mono HB.out.size)⟩
    · have := UsI.start (erB Ts) (er x)
      rw [names_er] at this
      exact this
    · rw [uses, HM.out, names_er]; rfl
  have HSt := Lib.hid hst
  clear hst hln hrd hno hb3 hnn
  go_wp2_with fail
  go_loopw [5, 6, 7] (fun o i _ W => ∃ (j N c : Nat) (aa : Option Addr) (out : List (List UInt8)), i = .int .i64 (j : Int) ∧ o = .slice aa N c ∧ RuO (erB Ts) x w M j out aa N c W) (fun _ i _ _ => M + 1 - (intOf i).toNat)
  case atStart => exact ⟨0, N0, lc, la, _, rfl, rfl, HSt.out⟩
  case round =>
    obtain ⟨j, N, c, aa, out, rfl, rfl, hU⟩ := hrel
    have hlen := hU.inv.len
    rw [HM.out] at hlen
    have hNo := hU.ln
    by_cases hj : j < N
    · have hRBr := HRB.out.mod (Mod.of_below hU.hb []) (by simp)
      have hjo : j < out.length := by omega
      obtain ⟨rb, ro, rfl, e1⟩ := hU.rd.map_at j hjo
      have hst := hU.inv.step hjo
      have hus := hU.us
      rw [usF_step (M + 1) (by omega) hjo _ rfl] at hus
      obtain ⟨s, hs⟩ : ∃ s, out[j] = s := ⟨_, rfl⟩
      rw [hs] at e1 hst hus
      have hfi := rfind_c q ra rc rn X Ts s wr hRBr
      have HFi := Lib.hid hfi
      have HU := Lib.hid (And.intro hU (And.intro hst (And.intro hus hRBr)))
      have hj2 : (j : Int) < (N : Int) := by omega
      have hN3 : N ≤ 30000 := by omega
      clear hfi hU hst hus hRBr hs
      go_wp2_with fail
      with_reducible refine HFi.out.mono ?_
      rintro e w4 ⟨r, rfl, hfp, hb4⟩
      obtain ⟨hU, hst, hus, hRBr⟩ := HU.out
      rcases hfp with ⟨rfl, hnone⟩ | ⟨kk, hk, rfl, _, hsome⟩
      · rw [stepU_none hnone] at hst hus
        have hre : RuO (erB Ts) x w M (j + 1) out (some ⟨rb, ro, none⟩) N c w4 := ⟨hU.ln, hU.rd.keep hb4, hU.no, hst, hus, hU.hb.trans (hb4.mono hU.hb.size)⟩
        have HRe := Lib.hid hre
        clear hre hU hst hus hRBr hb4 e1 hnone
        go_wp2
        go_roundw
        case rel => first | exact ⟨j + 1, N, c, _, out, by go_num, rfl, HRe.out⟩ | ((repeat apply Exists.intro); refine ⟨?r, ?f⟩; (case f => (and_intros <;> rfl)); exact ⟨j + 1, N, c, _, out, by go_num, rfl, HRe.out⟩)
        case measure => simp [intOf]; omega
      · rw [stepU_some hsome] at hst hus
        have hRB4 := hRBr.mod (Mod.of_below hb4 []) (by simp)
        obtain ⟨qb, qo, rfl, hcs⟩ := hRB4.at kk hk
        have hTi := (hRB4.ht _ (List.getElem_mem hk)).1
        have hset := hTi.len
        obtain ⟨⟨nm, kid⟩, hkd⟩ : ∃ y, Ts[kk] = y := ⟨_, rfl⟩
        rw [hkd] at hcs hset hTi hst hus
        simp only at hTi hst hus
        have hrn := rnames_c out N (some ⟨rb, ro, none⟩) c kid w4 hTi hU.ln hN3 (hU.rd.keep hb4) hU.no
        have hk0 := cell_block hRB4.hq 0
        simp only [List.getElem?_toArray, List.getElem?_cons_zero, List.getElem?_cons_succ] at hk0
        obtain ⟨wk, hwk⟩ : ∃ wk, walk kid = wk := ⟨_, rfl⟩
        unfold RnP at hrn
        rw [hwk] at hst hus hrn
        obtain ⟨y0, y1, y2, y3, hys⟩ := four' hset
        obtain ⟨zk, ksx, kmn, kmx, kt, ka, kc, kks⟩ := kid
        simp only [Nd.set] at hys
        subst hys
        have q1 := hcs 1 _ rfl (by omega)
        have q2 := hcs 2 _ rfl (by omega)
        have q3 := hcs 3 _ rfl (by omega)
        have q4 := hcs 4 _ rfl (by omega)
        have q5 := hcs 5 _ rfl (by omega)
        have q6 := hcs 6 _ rfl (by omega)
        have q7 := hcs 7 _ rfl (by omega)
        have q8 := hcs 8 _ rfl (by omega)
        have q9 := hcs 9 _ rfl (by omega)
        rw [← Nat.add_assoc] at q1 q2 q3 q4 q5 q6 q7 q8 q9
        simp only [Nd.kind, Nd.a, Nd.kids, Nd.cap, Nd.mn, Nd.mx, Nd.text] at q1 q2 q3 q4 q5 q6 q7 q8 q9
        replace q2 : w4.cell? ⟨qb, qo + kk * 10 + 1 + 1, none⟩ = some (.int .u64 (y0 : Int)) := q2
        replace q3 : w4.cell? ⟨qb, qo + kk * 10 + 1 + 2, none⟩ = some (.int .u64 (y1 : Int)) := q3
        replace q4 : w4.cell? ⟨qb, qo + kk * 10 + 1 + 3, none⟩ = some (.int .u64 (y2 : Int)) := q4
        replace q5 : w4.cell? ⟨qb, qo + kk * 10 + 1 + 4, none⟩ = some (.int .u64 (y3 : Int)) := q5
        replace q6 : w4.cell? ⟨qb, qo + kk * 10 + 1 + 5, none⟩ = some (.slice ka kks.length kc) := q6
        replace q7 : w4.cell? ⟨qb, qo + kk * 10 + 1 + 6, none⟩ = some (.int .i64 kmn) := q7
        replace q8 : w4.cell? ⟨qb, qo + kk * 10 + 1 + 7, none⟩ = some (.int .i64 kmx) := q8
        replace q9 : w4.cell? ⟨qb, qo + kk * 10 + 1 + 8, none⟩ = some (.string (Str kt)) := q9
        have hnvk : nv (.mk zk [y0, y1, y2, y3] kmn kmx kt ka kc kks) = .agg #[.int .i64 zk, .int .u64 (y0 : Int), .int .u64 (y1 : Int), .int .u64 (y2 : Int), .int .u64 (y3 : Int), .slice ka kks.length kc, .int .i64 kmn, .int .i64 kmx, .string (Str kt)] := rfl
        rw [hnvk] at hrn
        obtain ⟨kl, hkl⟩ : ∃ kl, kks.length = kl := ⟨_, rfl⟩
        rw [hkl] at hrn q6
        have hfin : ∀ (V : World) (a' : Option Addr) (c' m' : Nat), (addN out wk).length = m' → Rd V a' (strs (addN out wk)) → (a' = none → c' = 0) → Below w4.heap.size w4 V → RuO (erB Ts) x w M (j + 1) (addN out wk) a' m' c' V := fun V a' c' m' g1 g2 g3 g4 => ⟨g1, g2, g3, hst, hus, (hU.hb.trans (hb4.mono hU.hb.size)).trans (g4.mono (by have := hU.hb.size; have := hb4.size; omega))⟩
        have HRn := Lib.hid hrn
        have HFin := Lib.hid hfin
        have hkn : (kk : Int) < (rn : Int) := by have := hRB4.hn; omega
        have hk00 : (0 : Int) ≤ (kk : Int) := by omega
        clear hrn hfin hU hst hus hRBr hb4 e1 hsome hRB4 hcs hTi hset hkd hkl hnvk hwk
        go_wp2_with fail
        with_reducible refine HRn.out.mono ?_
        rintro e w5 ⟨a', c', m', rfl, g1, g2, g3, g4⟩
        have HRe := Lib.hid (HFin.out w5 a' c' m' g1 g2 g3 g4)
        clear g1 g2 g3 g4
        go_wp2
        go_roundw
        case rel => first | exact ⟨j + 1, m', c', a', _, by go_num, rfl, HRe.out⟩ | ((repeat apply Exists.intro); refine ⟨?r, ?f⟩; (case f => (and_intros <;> rfl)); exact ⟨j + 1, m', c', a', _, by go_num, rfl, HRe.out⟩)
        case measure => simp [intOf]; omega
    · have hfin : RuP (erB Ts) x w (.returned (.slice aa N c)) wr := by
        refine ⟨aa, c, N, rfl, ?_, ?_, hU.hb⟩
        · rw [← hU.us, usF_end _ (by omega)]; exact hNo
        · rw [← hU.us, usF_end _ (by omega)]; exact hU.rd
      have HFin := Lib.hid hfin
      have hj2 : ¬ (j : Int) < (N : Int) := by omega
      clear hfin hU
      go_wp2
      go_ret
      exact HFin.out
end Bo
end Go.Proofs.YteekonojmpihlaaDoor
