import Derived.Test.YtoeeddfinmfnoaaDoorQTreeBnd
import Derived.Test.YtoeeddfinmfnoaaDoorRows
import Derived.Test.YtoeeddfinmfnoaaDoorQTreePure
import Derived.WalkKit
import Derived.BigQuiet
import Derived.Deep.RegionHeld3
import Derived.Shelf.Strings.SplitCore
import Derived.Shelf.Strings.Search3
import Derived.Shelf.Strings.Count
import Derived.Shelf.Strings.OnBuilder
import Derived.Lib.SplitLaws
import Derived.Test.YtoeeddfinmfnoaaDoorQApp
import Derived.Test.YtoeeddfinmfnoaaDoorQTreeDep
/- tree.within, (Node).joined: kids' texts. -/
namespace Go.Proofs.YtoeeddfinmfnoaaDoor
namespace Kt
end Kt
namespace St
end St
namespace Sp
end Sp
namespace Bk
end Bk
open Go Go.RowKit Kt St Sp Bk
namespace Tr
/-- A node's block, cell by cell. -/
theorem nd_cells {W : World} {b T : Nat} {k : Int} {x0 x1 x2 x3 : Nat} {a : Option Addr} {nl c : Nat} {mn mx : Int} {t : List UInt8} {f : Nat × Nat}
    (h : W.heap[b]? = some (Obj.cells #[.int .i64 k, .int .u64 (x0 : Int), .int .u64 (x1 : Int), .int .u64 (x2 : Int), .int .u64 (x3 : Int), .slice a nl c, .int .i64 mn, .int .i64 mx, .string (Str t)] T f)) :
    W.cell? ⟨b, 0, none⟩ = some (.int .i64 k) ∧ W.cell? ⟨b, 1, none⟩ = some (.int .u64 (x0 : Int)) ∧ W.cell? ⟨b, 2, none⟩ = some (.int .u64 (x1 : Int)) ∧ W.cell? ⟨b, 3, none⟩ = some (.int .u64 (x2 : Int)) ∧ W.cell? ⟨b, 4, none⟩ = some (.int .u64 (x3 : Int)) ∧
    W.cell? ⟨b, 5, none⟩ = some (.slice a nl c) ∧ W.cell? ⟨b, 6, none⟩ = some (.int .i64 mn) ∧ W.cell? ⟨b, 7, none⟩ = some (.int .i64 mx) ∧ W.cell? ⟨b, 8, none⟩ = some (.string (Str t)) :=
  ⟨cell_block h 0, cell_block h 1, cell_block h 2, cell_block h 3, cell_block h 4, cell_block h 5, cell_block h 6, cell_block h 7, cell_block h 8⟩
theorem goods_len {B : Nat} {W : World} {ks : List Nd} (h : IsAll B W ks) : ∀ n ∈ ks, n.set.length = 4 := fun n hn => (Is.all h n hn).len
end Tr
end Go.Proofs.YtoeeddfinmfnoaaDoor

/- dofferref07.Walk: the nodes that the walk comes to, in a row. -/
namespace Go.Proofs.YtoeeddfinmfnoaaDoor
open Go Go.RowKit Kt St Sp Bk
namespace Tr
/-- A step's eleven cells. -/
def scells (x : Nd × Nat) : List Value := .int .i64 x.1.kind :: (w64 x.1.set ++ [.slice none 0 0, .int .i64 x.1.mn, .int .i64 x.1.mx, .string (Str x.1.text), .int .i64 (x.2 : Int), .int .i64 (x.1.kids.length : Int)])
theorem scells_len (x : Nd × Nat) (h : x.1.set.length = 4) : (scells x).length = 11 := by simp [scells, w64, h]
theorem scells_one (x : Nd × Nat) : ∀ u ∈ scells x, u.oneCell' = true := by
  intro u hu
  simp only [scells, w64, List.mem_cons, List.mem_append, List.mem_map, List.not_mem_nil, or_false] at hu
  rcases hu with rfl | ⟨y, _, rfl⟩ | rfl | rfl | rfl | rfl | rfl | rfl <;> rfl
theorem elStep : El Tryd.prog 60 63 (.agg #[.int .i64 0, .int .u64 0, .int .u64 0, .int .u64 0, .int .u64 0, .slice none 0 0, .int .i64 0, .int .i64 0, .string ⟨#[]⟩, .int .i64 0, .int .i64 0]) 11 112 := ⟨Tryd.underlying60, info_parts (by kernel_rfl), rfl, by decide⟩
/-- A row of steps of the call's own. -/
def Wr (base : Nat) (l : List (Nd × Nat)) (a : Option Addr) (n c : Nat) (W : World) : Prop := l.length = n ∧ W.ownsRow base 63 11 (.slice a n c) n (l.flatMap scells)
/-- What Walk answers: the row's list, in the same row or a new one. -/
def WaP (l : List (Nd × Nat)) (base : Nat) (a : Option Addr) (n c : Nat) (w : World) (e : Ending) (w' : World) : Prop := ∃ a' n' c', e = .returned (.slice a' n' c') ∧ Wr base l a' n' c' w' ∧ Mod (Value.slice a n c).ownBlock.toList w w' ∧
  ∀ k, (Value.slice a' n' c').ownBlock = some k → (Value.slice a n c).ownBlock = some k ∨ w.heap.size ≤ k
theorem take_app (X Y : List (Nd × Nat)) (k : Nat) : (X.take k ++ Y).take k = (X ++ Y).take k := by
  rw [List.take_append, List.take_append, List.take_take, Nat.min_self, List.length_take]
  by_cases h : k ≤ X.length
  · rw [Nat.min_eq_left h, Nat.sub_self, show k - X.length = 0 by omega]
  · rw [Nat.min_eq_right (by omega)]
/-- Where Walk's loop stands. -/
structure WaL (base : Nat) (pre : List (Nd × Nat)) (n : Nd) (lv : Nat) (ks : List Nd) (a : Option Addr) (m c : Nat) (w : World) (v : Value) (j : Nat) (W : World) : Prop where
  ex : ∃ a' n' c', v = .slice a' n' c' ∧ Wr base ((pre ++ (n, lv) :: fulls (lv + 1) (ks.take j)).take 601) a' n' c' W ∧ Mod (Value.slice a m c).ownBlock.toList w W ∧ (∀ k, (Value.slice a' n' c').ownBlock = some k → (Value.slice a m c).ownBlock = some k ∨ w.heap.size ≤ k)
set_option maxRecDepth 100000 in
set_option maxHeartbeats 8000000 in
/-- One node, its kids' walks at hand. -/
theorem rwalk_step (k : Int) (x0 x1 x2 x3 : Nat) (a : Option Addr) (ks : List Nd) (c : Nat) (mn mx : Int) (t : List UInt8) (lv : Nat) (hlv : lv ≤ 25) (base : Nat) (pre : List (Nd × Nat)) (la : Option Addr) (ln lc : Nat) (w : World) (hIs : Is w.heap.size w (.mk k [x0, x1, x2, x3] mn mx t a c ks))
    (hbs : base ≤ w.heap.size) (hwr : Wr base pre la ln lc w) (h601 : ln ≤ 601) (hbl : Bl (fun q => (Value.slice la ln lc).ownBlock ≠ some q) (.mk k [x0, x1, x2, x3] mn mx t a c ks))
    (hx : ∀ n ∈ ks, ∀ (pre : List (Nd × Nat)) (la : Option Addr) (ln lc : Nat) (W : World), base ≤ W.heap.size → Is W.heap.size W n → Wr base pre la ln lc W → ln ≤ 601 → Bl (fun q => (Value.slice la ln lc).ownBlock ≠ some q) n → lv + 1 ≤ 25 →
      Calls Tryd.prog 42 #[nv n, .int .i64 ((lv + 1 : Nat) : Int), .slice la ln lc] W (WaP ((pre ++ full (lv + 1) n).take 601) base la ln lc W)) :
    Calls Tryd.prog 42 #[nv (.mk k [x0, x1, x2, x3] mn mx t a c ks), .int .i64 (lv : Int), .slice la ln lc] w (WaP ((pre ++ full lv (.mk k [x0, x1, x2, x3] mn mx t a c ks)).take 601) base la ln lc w) := by
  have hnv : nv (.mk k [x0, x1, x2, x3] mn mx t a c ks) = .agg #[.int .i64 k, .int .u64 (x0 : Int), .int .u64 (x1 : Int), .int .u64 (x2 : Int), .int .u64 (x3 : Int), .slice a ks.length c, .int .i64 mn, .int .i64 mx, .string (Str t)] := rfl
  have hfull := full_eq lv (.mk k [x0, x1, x2, x3] mn mx t a c ks)
  rw [hnv]
  clear hnv
  obtain ⟨nl, hnl⟩ : ∃ nl, ks.length = nl := ⟨_, rfl⟩
  rw [hnl]
  obtain ⟨hlen, hown⟩ := hwr
  have l3 := heap_alloc_new w (.cells #[.int .i64 k, .int .u64 (x0 : Int), .int .u64 (x1 : Int), .int .u64 (x2 : Int), .int .u64 (x3 : Int), .slice a nl c, .int .i64 mn, .int .i64 mx, .string (Str t)] 31)
  have hB := (Below.refl w.heap.size w).alloc (Nat.le_refl _) (.cells #[.int .i64 k, .int .u64 (x0 : Int), .int .u64 (x1 : Int), .int .u64 (x2 : Int), .int .u64 (x3 : Int), .slice a nl c, .int .i64 mn, .int .i64 mx, .string (Str t)] 31)
  obtain ⟨W1, hW1⟩ : ∃ W1, w.alloc (.cells #[.int .i64 k, .int .u64 (x0 : Int), .int .u64 (x1 : Int), .int .u64 (x2 : Int), .int .u64 (x3 : Int), .slice a nl c, .int .i64 mn, .int .i64 mx, .string (Str t)] 31) = W1 := ⟨_, rfl⟩
  have hz1 : W1.heap.size = w.heap.size + 1 := by rw [← hW1]; simp
  rw [hW1] at l3 hB
  have hownlt : ∀ q, (Value.slice la ln lc).ownBlock = some q → q < w.heap.size := fun q hq => (hown.lt q hq).2
  by_cases hfl : ln = 601
  · -- there is no room
    subst hfl
    have hout : (pre ++ full lv (.mk k [x0, x1, x2, x3] mn mx t a c ks)).take 601 = pre := by rw [List.take_append_of_le_length (by omega), List.take_of_length_le (by omega)]
    rw [hout]
    have hfin : WaP pre base la 601 lc w (.returned (.slice la 601 lc)) W1 := ⟨la, 601, lc, rfl, ⟨hlen, own_keep hown hB⟩, Mod.of_below hB _, fun k hk => .inl hk⟩
    have HF := Lib.hid hfin
    have HW1 := Lib.hid hW1
    clear hfin hW1 hout hIs hbl hx hown hlen hB l3 hz1 hownlt hfull
    go_enter Tryd.func42, Tryd.ntmps42
    go_wp2
    rw [HW1.out]
    go_ret
    exact HF.out
  · have hd : decide ((601 : Int) ≤ (ln : Int)) = false := by simp; omega
    obtain ⟨u0, u1, u2, u3, u4, u5, u6, u7, u8⟩ := nd_cells l3
    -- the step is appended
    have own1 := own_keep hown hB
    have hsc : (scells (Nd.mk k [x0, x1, x2, x3] mn mx t a c ks, lv)) = [.int .i64 k, .int .u64 (x0 : Int), .int .u64 (x1 : Int), .int .u64 (x2 : Int), .int .u64 (x3 : Int), .slice none 0 0, .int .i64 mn, .int .i64 mx, .string (Str t), .int .i64 (lv : Int), .int .i64 (nl : Int)] := by rw [← hnl]; rfl
    have b2 := (Below.refl W1.heap.size W1).alloc (Nat.le_refl _) (.cells (scells (Nd.mk k [x0, x1, x2, x3] mn mx t a c ks, lv)).toArray 63)
    have hrn := Rd.new W1 (scells (Nd.mk k [x0, x1, x2, x3] mn mx t a c ks, lv)).toArray 63 (0, 0) _ rfl
    obtain ⟨g, cap, w3, hrun, own3, gr3, hlie, hg3⟩ := elStep.lies base (ty := 60) (own_keep own1 b2) 1 1 (by rw [scells_len _ rfl]) (by decide) hrn (scells_one _) (by unfold maxLen; omega) (by omega) (by simp; omega)
    have hz2 : (W1.alloc (.cells (scells (Nd.mk k [x0, x1, x2, x3] mn mx t a c ks, lv)).toArray 63)).heap.size = w.heap.size + 2 := by simp; omega
    have hwr3 : Wr base (pre ++ [(Nd.mk k [x0, x1, x2, x3] mn mx t a c ks, lv)]) (some ⟨g, 0, none⟩) (ln + 1) cap w3 := ⟨by simp [hlen], by rw [List.flatMap_append, show [(Nd.mk k [x0, x1, x2, x3] mn mx t a c ks, lv)].flatMap scells = scells (Nd.mk k [x0, x1, x2, x3] mn mx t a c ks, lv) by simp]; exact own3⟩
    have hM3 : Mod (Value.slice la ln lc).ownBlock.toList w w3 := ((Mod.of_below hB _).alloc _).grown gr3 (fun q hq => .inl (by simp [hq]))
    have hg3' : ∀ q, (Value.slice (some ⟨g, 0, none⟩) (ln + 1) cap).ownBlock = some q → (Value.slice la ln lc).ownBlock = some q ∨ w.heap.size ≤ q := fun q hq => by
      have he : g = q := by simpa [Value.ownBlock] using hq
      subst he
      rcases hlie with h | h
      · exact .inl h
      · exact .inr (by omega)
    rw [hsc] at hrun
    rw [hz1] at hrun
    have hd1 : decide ((601 : Int) ≤ (ln : Int)) = false := hd
    by_cases h24 : 24 < lv
    · have hd24 : decide ((24 : Int) < (lv : Int)) = true := by simp; omega
      have hout : (pre ++ full lv (.mk k [x0, x1, x2, x3] mn mx t a c ks)).take 601 = pre ++ [(Nd.mk k [x0, x1, x2, x3] mn mx t a c ks, lv)] := by rw [hfull, if_pos h24, List.take_of_length_le (by simp; omega)]
      rw [hout]
      have HF := Lib.hid (show WaP (pre ++ [(Nd.mk k [x0, x1, x2, x3] mn mx t a c ks, lv)]) base la ln lc w (.returned (.slice (some ⟨g, 0, none⟩) (ln + 1) cap)) w3 from ⟨_, _, _, rfl, hwr3, hM3, hg3'⟩)
      have HW1 := Lib.hid hW1
      rw [← hW1] at hrun u0 u1 u2 u3 u4 u5 u6 u7 u8
      clear hW1 hout hIs hbl hx hown hlen hB l3 hz1 hownlt hfull hwr3 hM3 hg3' own1 hsc b2 hrn own3 gr3 hlie hg3 hz2 hfl h24
      go_enter Tryd.func42, Tryd.ntmps42
      go_wp2_with (at_builtin; (with_reducible apply wpList_append_run hrun); rfl; rfl; rfl; rfl; rfl)
      go_ret
      exact HF.out
    · have hd24 : decide ((24 : Int) < (lv : Int)) = false := by simp; omega
      rw [hfull, if_neg h24]
      simp only [Nd.kids]
      obtain ⟨n, hn⟩ : ∃ n, Nd.mk k [x0, x1, x2, x3] mn mx t a c ks = n := ⟨_, rfl⟩
      rw [hn] at hwr3 hIs hbl ⊢
      have h3b : w3.heap[w.heap.size]? = W1.heap[w.heap.size]? := ((Mod.of_below b2 _).grown gr3 (fun q hq => .inl (by simp [hq]) : ∀ q, _ → q ∈ (Value.slice la ln lc).ownBlock.toList ∨ _)).block _ (block_lt l3) (fun hq => by have := hownlt _ (by simpa using hq); omega)
      have c5 := cell_block (i := 5) (show _ = some (Obj.cells _ _ _) from h3b.trans l3)
      simp only [List.getElem?_toArray, List.getElem?_cons_zero, List.getElem?_cons_succ] at c5
      have HF := Lib.hid (And.intro hwr3 (And.intro hM3 hg3'))
      have HI := Lib.hid (And.intro hIs hbl)
      have HW1 := Lib.hid hW1
      have HX := Lib.hid hx
      have HN := Lib.hid hn
      have HNl := Lib.hid hnl
      have HB := Lib.hid hbs
      have HL := Lib.hid hlen
      rw [← hW1] at hrun u0 u1 u2 u3 u4 u5 u6 u7 u8
      clear hW1 hIs hbl hx hown hlen hB l3 hz1 hownlt hfull hwr3 hM3 hg3' own1 hsc b2 hrn own3 gr3 hlie hg3 hz2 h3b hn hnl hbs
      go_enter Tryd.func42, Tryd.ntmps42
      go_wp2_with (at_builtin; (with_reducible apply wpList_append_run hrun); rfl; rfl; rfl; rfl; rfl)
      clear hrun u0 u1 u2 u3 u4 u5 u6 u7 u8 c5
      go_loopw [2, 38] (fun v i W => ∃ j : Nat, j ≤ nl ∧ i = .int .i64 (j : Int) ∧ WaL base pre n lv ks la ln lc w v j W) (fun _ i _ => nl - (intOf i).toNat)
      case atStart =>
        obtain ⟨h1, h2, h3⟩ := HF.out
        refine ⟨0, Nat.zero_le _, rfl, ⟨_, _, _, rfl, ?_, h2, h3⟩⟩
        rw [List.take_zero, fulls, List.take_of_length_le (by simp; have := HL.out; omega)]
        exact h1
      case round =>
        obtain ⟨j, hj, rfl, ⟨a', n', c', rfl, hwr, hM, hgb⟩⟩ := hrel
        have hwl := hwr.1
        have hn601 : n' ≤ 601 := by rw [← hwl, List.length_take]; omega
        by_cases hjl : j < nl
        · have hjk : j < ks.length := by rw [HNl.out]; exact hjl
          have hin : ks[j] ∈ ks := List.getElem_mem hjk
          have hns : n.kids = ks := by rw [← HN.out]; rfl
          have hIw := Is.mono hM.size (Is.modB hM HI.out.1 (HI.out.2.mono fun q hq => by simpa using hq))
          rw [← HN.out] at hIw
          obtain ⟨_, hlc, hcm, _, hrd, _, hall⟩ := hIw
          have hnlm : nl ≤ 9223372036854775807 := by unfold maxLen at hcm; rw [← HNl.out]; omega
          clear hlc hcm
          obtain ⟨b, off, rfl, hcs⟩ := kid_at hrd (goods_len hall) j hjk
          have hkid := Is.all hall _ hin
          have hblk : Bl (fun q => (Value.slice a' n' c').ownBlock ≠ some q) ks[j] := by
            have h1 := HI.out.2
            have h2 := HI.out.1.bl
            rw [← HN.out] at h1 h2
            exact Bl.both (Bls.mem h1.2 _ hin) (Bls.mem h2.2 _ hin) fun q hq hl e => by
              rcases hgb q e with h | h
              · exact hq h
              · omega
          have hxk := HX.out _ hin ((pre ++ (n, lv) :: fulls (lv + 1) (ks.take j)).take 601) a' n' c'
          have hft := fulls_take (lv + 1) ks j hjk
          obtain ⟨kid, hkd⟩ : ∃ kid, ks[j] = kid := ⟨_, rfl⟩
          rw [hkd] at hcs hkid hxk hblk hft
          obtain ⟨y0, y1, y2, y3, hys⟩ := four' hkid.len
          obtain ⟨kk, ksx, kmn, kmx, kt, ka, kc, kks⟩ := kid
          simp only [Nd.set] at hys
          subst hys
          have q0 := hcs 0 _ rfl (by omega)
          have q1 := hcs 1 _ rfl (by omega)
          have q2 := hcs 2 _ rfl (by omega)
          have q3 := hcs 3 _ rfl (by omega)
          have q4 := hcs 4 _ rfl (by omega)
          have q5 := hcs 5 _ rfl (by omega)
          have q6 := hcs 6 _ rfl (by omega)
          have q7 := hcs 7 _ rfl (by omega)
          have q8 := hcs 8 _ rfl (by omega)
          simp only [← Nat.add_assoc, Nat.add_zero, Nd.kind, Nd.a, Nd.kids, Nd.cap, Nd.mn, Nd.mx, Nd.text] at q0 q1 q2 q3 q4 q5 q6 q7 q8
          have hnvk : nv (.mk kk [y0, y1, y2, y3] kmn kmx kt ka kc kks) = .agg #[.int .i64 kk, .int .u64 (y0 : Int), .int .u64 (y1 : Int), .int .u64 (y2 : Int), .int .u64 (y3 : Int), .slice ka kks.length kc, .int .i64 kmn, .int .i64 kmx, .string (Str kt)] := rfl
          rw [hnvk] at hxk
          obtain ⟨kl, hkl⟩ : ∃ kl, kks.length = kl := ⟨_, rfl⟩
          rw [hkl] at hxk q5
          obtain ⟨W5, hW5⟩ : ∃ W5, wr.alloc (.cells #[.int .i64 kk, .int .u64 (y0 : Int), .int .u64 (y1 : Int), .int .u64 (y2 : Int), .int .u64 (y3 : Int), .slice ka kl kc, .int .i64 kmn, .int .i64 kmx, .string (Str kt)] 31) = W5 := ⟨_, rfl⟩
          have b5 : Below wr.heap.size wr W5 := by rw [← hW5]; exact (Below.refl _ _).alloc (Nat.le_refl _) _
          have s5 : W5.heap[wr.heap.size]? = some (.cells #[.int .i64 kk, .int .u64 (y0 : Int), .int .u64 (y1 : Int), .int .u64 (y2 : Int), .int .u64 (y3 : Int), .slice ka kl kc, .int .i64 kmn, .int .i64 kmx, .string (Str kt)] 31 (0, 0)) := by rw [← hW5]; exact heap_alloc_new wr _
          have hM5 := hM.trans (Mod.of_below b5 (Value.slice la ln lc).ownBlock.toList) (fun q hq => .inl hq)
          have hw5 : Wr base ((pre ++ (n, lv) :: fulls (lv + 1) (ks.take j)).take 601) a' n' c' W5 := ⟨hwl, own_keep hwr.2 b5⟩
          by_cases hf : n' = 601
          · have hout : (pre ++ (n, lv) :: fulls (lv + 1) ks).take 601 = (pre ++ (n, lv) :: fulls (lv + 1) (ks.take j)).take 601 := by
              have h1 : 601 ≤ (pre ++ (n, lv) :: fulls (lv + 1) (ks.take j)).length := by rw [List.length_take] at hwl; omega
              conv => lhs; rw [← List.take_append_drop j ks]
              rw [fulls_append, ← List.cons_append, ← List.append_assoc, List.take_append_of_le_length h1]
            have HFin := Lib.hid (show WaP ((pre ++ (n, lv) :: fulls (lv + 1) ks).take 601) base la ln lc w (.returned (.slice a' n' c')) W5 from ⟨a', n', c', rfl, by rw [hout]; exact hw5, hM5, hgb⟩)
            have HW5 := Lib.hid hW5
            have hdf : decide ((601 : Int) ≤ (n' : Int)) = true := by simp; omega
            clear hwr hwl hn601 hM hgb hrd hall hcs hkid hblk hxk hft hkd hnvk hkl b5 s5 hM5 hw5 hout hin hns hW5 hf
            go_wp2
            rw [HW5.out]
            go_ret
            exact HFin.out
          · have hdf : decide ((601 : Int) ≤ (n' : Int)) = false := by simp; omega
            have hxk5 := hxk W5 (by have := HB.out; have := hM5.size; omega) (Is.mono b5.size (Is.below b5 hkid)) hw5 hn601 hblk (by have := hlv; omega)
            have hout2 : ((pre ++ (n, lv) :: fulls (lv + 1) (ks.take j)).take 601 ++ full (lv + 1) (.mk kk [y0, y1, y2, y3] kmn kmx kt ka kc kks)).take 601 = (pre ++ (n, lv) :: fulls (lv + 1) (ks.take (j + 1))).take 601 := by rw [take_app, hft]; simp
            rw [hout2] at hxk5
            have HK := Lib.hid hxk5
            have HG := Lib.hid (And.intro hM5 hgb)
            have HW5 := Lib.hid hW5
            obtain ⟨u0, u1, u2, u3, u4, u5, u6, u7, u8⟩ := nd_cells s5
            rw [← hW5] at u0 u1 u2 u3 u4 u5 u6 u7 u8
            have hcast : ((lv + 1 : Nat) : Int) = (lv : Int) + 1 := by omega
            rw [hcast] at HK
            clear hwr hwl hn601 hM hgb hrd hall hcs hkid hblk hxk hxk5 hft hkd hnvk hkl b5 s5 hM5 hw5 hin hns hW5 hf hout2 hcast
            go_wp2_with fail
            rw [HW5.out]
            with_reducible refine HK.out.mono ?_
            rintro e w6 ⟨a6, n6, c6, rfl, hw6, hM6, hg6⟩
            obtain ⟨hM5, hgb⟩ := HG.out
            have hfin2 : WaL base pre n lv ks la ln lc w (.slice a6 n6 c6) (j + 1) w6 := ⟨a6, n6, c6, rfl, hw6, hM5.trans hM6 (fun q hq => hgb q (by simpa using hq) |>.imp (fun h => by simpa using h) id), fun q hq => by
              rcases hg6 q hq with h | h
              · exact hgb q h
              · exact .inr (by have := hM5.size; omega)⟩
            have HFin := Lib.hid hfin2
            clear hfin2 hw6 hM6 hg6 hM5 hgb
            go_wp2
            go_roundw
            case rel => exact ⟨j + 1, by omega, by go_num, HFin.out⟩
            case measure => simp [intOf]; omega
        · obtain rfl : j = nl := by omega
          have hks : ks.take j = ks := List.take_of_length_le (by rw [HNl.out]; exact Nat.le_refl _)
          rw [hks] at hwr
          have HFin := Lib.hid (show WaP ((pre ++ (n, lv) :: fulls (lv + 1) ks).take 601) base la ln lc w (.returned (.slice a' n' c')) wr from ⟨a', n', c', rfl, hwr, hM, hgb⟩)
          clear hwr hM hgb hwl hn601
          go_wp2
          go_ret
          exact HFin.out
mutual
/-- dofferref07.Walk. -/
theorem rwalk_all : ∀ (n : Nd) (lv : Nat), lv ≤ 25 → ∀ (base : Nat) (pre : List (Nd × Nat)) (la : Option Addr) (ln lc : Nat) (w : World), base ≤ w.heap.size → Is w.heap.size w n → Wr base pre la ln lc w → ln ≤ 601 → Bl (fun q => (Value.slice la ln lc).ownBlock ≠ some q) n →
    Calls Tryd.prog 42 #[nv n, .int .i64 (lv : Int), .slice la ln lc] w (WaP ((pre ++ full lv n).take 601) base la ln lc w)
  | .mk k s mn mx t a c ks, lv, hlv, base, pre, la, ln, lc, w, hb, hIs, hw, h6, hbl => by
    have hx := rwalks_all ks (lv + 1) base
    obtain ⟨x0, x1, x2, x3, hl⟩ := four' hIs.1
    subst hl
    exact rwalk_step k x0 x1 x2 x3 a ks c mn mx t lv hlv base pre la ln lc w hIs hb hw h6 hbl hx
theorem rwalks_all : ∀ (ks : List Nd) (lv : Nat) (base : Nat), ∀ n ∈ ks, ∀ (pre : List (Nd × Nat)) (la : Option Addr) (ln lc : Nat) (W : World), base ≤ W.heap.size → Is W.heap.size W n → Wr base pre la ln lc W → ln ≤ 601 → Bl (fun q => (Value.slice la ln lc).ownBlock ≠ some q) n → lv ≤ 25 →
    Calls Tryd.prog 42 #[nv n, .int .i64 (lv : Int), .slice la ln lc] W (WaP ((pre ++ full lv n).take 601) base la ln lc W)
  | [], _, _, n, hn, _, _, _, _, _, _, _, _, _, _, _ => by cases hn
  | m :: r, lv, base, n, hn, pre, la, ln, lc, W, hb, hIs, hw, h6, hbl, hlv => by
    by_cases h : n = m
    · rw [h] at hIs hbl ⊢
      exact rwalk_all m lv hlv base pre la ln lc W hb hIs hw h6 hbl
    · exact rwalks_all r lv base n (by rcases List.mem_cons.1 hn with h3 | h3; exact absurd h3 h; exact h3) pre la ln lc W hb hIs hw h6 hbl hlv
end
theorem Bl.any : ∀ {n : Nd} {P : Nat → Prop}, (∀ q, P q) → Bl P n := fun {n} {P} h => by
  have hB : ∀ {Q : Nat → Prop}, Bl Q n → Bl P n := fun hq => hq.mono fun q _ => h q
  exact hB (Bl.top n)
/-- dofferref07.Walk of a whole tree. -/
theorem rwalk_c (n : Nd) (w : World) (hIs : Is w.heap.size w n) : Calls Tryd.prog 42 #[nv n, .int .i64 1, .slice none 0 0] w fun e w' => ∃ a c, e = .returned (.slice a (walk n).length c) ∧ Wr w.heap.size (walk n) a (walk n).length c w' ∧ Below w.heap.size w w' :=
  (rwalk_all n 1 (by decide) w.heap.size [] none 0 0 w (Nat.le_refl _) hIs ⟨rfl, World.ownsRow_nil _ _ _ _⟩ (by decide) (Bl.any fun q h => by cases h)).mono fun e w' ⟨a', n', c', he, hw, hM, _⟩ => by
    have hw2 : Wr w.heap.size (walk n) a' n' c' w' := hw
    have hl := hw2.1
    subst hl
    exact ⟨a', c', he, hw2, hM.toBelow (Nat.le_refl _) (fun k hk => by simp [Value.ownBlock] at hk)⟩
end Tr
end Go.Proofs.YtoeeddfinmfnoaaDoor
