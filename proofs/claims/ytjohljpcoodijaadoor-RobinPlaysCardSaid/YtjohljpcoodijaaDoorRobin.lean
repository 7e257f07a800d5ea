/- The walks of package robin: New, Add, Drop, Turn, Done, Has, Deficit, Members, Len, On. Condition where an error is answered: the sentinels read as laid. -/
import Derived.Test.YtjohljpcoodijaaDoorRobinDel
import Derived.Test.YtjohljpcoodijaaDoorErr
namespace Go.Proofs.YtjohljpcoodijaaDoor
open Go Go.RowKit Kt
namespace Rb
/-- The errors that package robin answers. -/
def rb3 : List Nat := [1, 2, 3]
/-- A list of turns at block p, its row's block (if any) g: the quantum, the members with what they have left over, whether a turn is on. -/
structure Is (w : World) (p : Nat) (g : List Nat) (Q : Int) (l : List (Int × Int)) (on : Bool) : Prop where
  h : ∃ a cap, w.heap[p]? = some (.cells #[.int .i64 Q, .slice a l.length cap, .bool on] 116 (0, 0)) ∧ w.ownsRow 0 118 2 (.slice a l.length cap) l.length (l.flatMap c2) ∧ (Value.slice a l.length cap).ownBlock.toList = g
  ne : p ∉ g
  onne : on = true → l ≠ []
/-- The blocks g' are among g, or lie from B on. -/
def Fr (g' g : List Nat) (B : Nat) : Prop := ∀ k ∈ g', k ∈ g ∨ B ≤ k
variable {w w' : World} {p : Nat} {g : List Nat} {Q : Int} {l : List (Int × Int)} {on : Bool}
theorem Is.plt (h : Is w p g Q l on) : p < w.heap.size := by obtain ⟨a, cap, h1, _⟩ := h.h; exact block_lt h1
theorem Is.glt (h : Is w p g Q l on) : ∀ k ∈ g, k < w.heap.size := by
  obtain ⟨a, cap, _, h2, rfl⟩ := h.h
  intro k hk
  exact (h2.lt k (by simpa using hk)).2
theorem Is.lts (h : Is w p g Q l on) : ∀ k ∈ p :: g, k < w.heap.size := by
  intro k hk
  rcases List.mem_cons.1 hk with rfl | hk
  · exact h.plt
  · exact h.glt k hk
theorem Is.mod {S : List Nat} (h : Is w p g Q l on) (hb : Mod S w w') (hS : ∀ k ∈ p :: g, k ∉ S) : Is w' p g Q l on := by
  obtain ⟨a, cap, h1, h2, rfl⟩ := h.h
  exact ⟨⟨a, cap, by rw [hb.block p h.plt (hS p (by simp))]; exact h1, own_mod h2 hb (fun k hk => hS k (by simp [hk])), rfl⟩, h.ne, h.onne⟩
theorem Is.below (h : Is w p g Q l on) (hb : Below w.heap.size w w') : Is w' p g Q l on := h.mod (Mod.of_below hb []) (by simp)
/-- The row's field is written. -/
theorem Is.put {a : Option Addr} {cap : Nat} {g' : List Nat} {v0 : Value} (h1 : w.heap[p]? = some (.cells #[.int .i64 Q, v0, .bool on] 116 (0, 0))) (own : w.ownsRow 0 118 2 (.slice a l.length cap) l.length (l.flatMap c2))
    (hg : (Value.slice a l.length cap).ownBlock.toList = g') (hp : p ∉ g') (ho : on = true → l ≠ []) : Is (w.setCell ⟨p, 1, none⟩ (.slice a l.length cap)) p g' Q l on := by
  refine ⟨⟨a, cap, by rw [block_setCell h1]; rfl, own_mod own ((Mod.refl [p] w).setCell (.inl (by simp)) _) ?_, hg⟩, hp, ho⟩
  intro k hk hm
  have : k = p := by simpa using hm
  subst this
  exact hp (by rw [← hg, hk]; simp)
/-- The mark's field is written. -/
theorem Is.mark (h : Is w p g Q l on) (on' : Bool) (ho : on' = true → l ≠ []) : Is (w.setCell ⟨p, 2, none⟩ (.bool on')) p g Q l on' := by
  obtain ⟨a, cap, h1, h2, rfl⟩ := h.h
  refine ⟨⟨a, cap, by rw [block_setCell h1]; rfl, own_mod h2 ((Mod.refl [p] w).setCell (.inl (by simp)) _) ?_, rfl⟩, h.ne, ho⟩
  intro k hk hm
  have : k = p := by simpa using hm
  subst this
  exact h.ne (by rw [hk]; simp)

set_option maxHeartbeats 400000 in
set_option maxRecDepth 100000 in
theorem new_ok (R : Int) (w : World) (h1 : 1 ≤ R) (h2 : R ≤ 256) :
    Calls Tryd.prog 22 #[.int .i64 R] w fun e w' => ∃ p, e = .returned (.tuple #[.pointer (some ⟨p, 0, none⟩), .nilIface]) ∧ Is w' p [] R [] false ∧ w.heap.size ≤ p ∧ Below w.heap.size w w' := by
  go_enter Tryd.func22, Tryd.ntmps22
  go_wp2
  go_ret2
  exact ⟨_, rfl, ⟨⟨none, 0, heap_alloc_new w _, World.ownsRow_nil _ _ _ _, rfl⟩, by simp, by simp⟩, Nat.le_refl _, (Below.refl _ _).alloc (Nat.le_refl _) _⟩
set_option maxHeartbeats 400000 in
set_option maxRecDepth 100000 in
theorem new_bad (A : Nat → Addr) (R : Int) (w : World) (h : R < 1 ∨ 256 < R) (hs : Sent 152 w A rb3) :
    Calls Tryd.prog 22 #[.int .i64 R] w fun e w' => e = .returned (.tuple #[.pointer none, Er.ev A 1]) ∧ Below w.heap.size w w' := by
  have hc := hs.cell 1 (by simp [rb3])
  clear hs
  rcases h with h | h
  · have hb : decide (R < 1) = true := by simp; omega
    clear h
    go_enter Tryd.func22, Tryd.ntmps22
    go_wp2
    try go_quiet (fail)
    try go_wp2
    go_ret2
    first | exact ⟨rfl, below_drewN (Below.refl _ _) _⟩ | exact ⟨rfl, Below.refl _ _⟩
  · have hb : decide (R < 1) = false := by simp; omega
    have hb' : decide (256 < R) = true := by simp; omega
    clear h
    go_enter Tryd.func22, Tryd.ntmps22
    go_wp2
    try go_quiet (fail)
    try go_wp2
    go_ret2
    first | exact ⟨rfl, below_drewN (Below.refl _ _) _⟩ | exact ⟨rfl, Below.refl _ _⟩

theorem fdv_nn {l : List (Int × Int)} {x : Int} (h : fd l x < l.length) : fdv l x = (fd l x : Int) := by unfold fdv; rw [if_pos h]
theorem fdv_neg {l : List (Int × Int)} {x : Int} (h : ¬ fd l x < l.length) : fdv l x = -1 := by unfold fdv; rw [if_neg h]

set_option maxHeartbeats 1000000 in
set_option maxRecDepth 100000 in
theorem add_no (x : Int) (w : World) (p : Nat) (g : List Nat) (Q : Int) (l : List (Int × Int)) (on : Bool) (h : Is w p g Q l on) (hl : l.length ≤ 1000000) (hf : fd l x < l.length) :
    Calls Tryd.prog 23 #[.pointer (some ⟨p, 0, none⟩), .int .i64 x] w fun e w' => e = .returned (.bool false) ∧ Below w.heap.size w w' := by
  obtain ⟨a, cap, h1, h2, _⟩ := h.h
  have k1 := cell_block h1 1
  have hF := find_c p a cap l.length l x w rfl (by omega) (Rd.own h2) k1
  rw [fdv_nn hf] at hF
  clear h h1 h2 k1 hf
  go_enter Tryd.func23, Tryd.ntmps23
  go_wp2_with (go_at_call 78; (with_reducible refine hF.mono ?_); rintro e w5 ⟨rfl, hb5⟩)
  go_ret
  exact ⟨rfl, hb5⟩
set_option maxHeartbeats 1000000 in
set_option maxRecDepth 100000 in
theorem add_yes (x : Int) (w : World) (p : Nat) (g : List Nat) (Q : Int) (l : List (Int × Int)) (on : Bool) (h : Is w p g Q l on) (hl : l.length ≤ 1000000) (hf : ¬ fd l x < l.length) :
    Calls Tryd.prog 23 #[.pointer (some ⟨p, 0, none⟩), .int .i64 x] w fun e w' => e = .returned (.bool true) ∧ ∃ g', Is w' p g' Q (l ++ [(x, 0)]) on ∧ Mod (p :: g) w w' ∧ Fr g' g w.heap.size := by
  obtain ⟨a, cap, h1, h2, h3⟩ := h.h
  have k1 := cell_block h1 1
  have hF := find_c p a cap l.length l x w rfl (by omega) (Rd.own h2) k1
  rw [fdv_neg hf] at hF
  have H := Lib.hid h
  clear h h1 h2 h3 k1 hf
  go_enter Tryd.func23, Tryd.ntmps23
  go_wp2_with fail
  refine hF.mono ?_
  rintro e w5 ⟨rfl, hb5⟩
  have H5 := H.out.below hb5
  obtain ⟨a5, cap5, e1, e2, e3⟩ := H5.h
  have k1 := cell_block e1 1
  have b6 := (Below.refl w5.heap.size w5).alloc (Nat.le_refl _) (.cells #[.int .i64 x, .int .i64 0] 118)
  have own6 := own_keep e2 b6
  obtain ⟨gn, capn, w6, hrun, own7, gr7, hlie, hlt⟩ := el.lies 0 (ty := 114) own6 1 1 (news := c2 (x, 0)) rfl (by omega) (Rd.new w5 #[.int .i64 x, .int .i64 0] 118 (0, 0) _ rfl) (by intro u hu; simp [c2] at hu; rcases hu with rfl | rfl <;> rfl) (by unfold maxLen; omega) (by omega) (Nat.zero_le _)
  have hpg : p ∉ g := H5.ne
  have hplt := block_lt e1
  have hpb : ∀ k, (Value.slice a5 l.length cap5).ownBlock = some k → k ≠ p := by
    intro k hk he
    subst he
    exact hpg (by rw [← e3, hk]; simp)
  have hpn : p ≠ gn := by
    rcases hlie with h | h
    · exact fun e => hpb _ h e.symm
    · simp at h; omega
  have e6 : w6.heap[p]? = some (.cells #[.int .i64 Q, .slice a5 l.length cap5, .bool on] 116 (0, 0)) := by
    rw [gr7.block p (by simp; omega) (fun e => hpb p e.symm rfl)]
    exact block_alloc e1
  have k6 := cell_block e6 1
  have f6 := frozen_block e6 1
  have hl1 : (l ++ [(x, (0 : Int))]).length = l.length + 1 := by simp
  have hI := Is.put (a := some ⟨gn, 0, none⟩) (cap := capn) (l := l ++ [(x, 0)]) (g' := [gn]) e6 (by rw [hl1, List.flatMap_append]; simpa using own7) rfl (by simpa using hpn) (fun _ => by simp)
  rw [hl1] at hI
  have hM : Mod (p :: g) w (w6.setCell ⟨p, 1, none⟩ (.slice (some ⟨gn, 0, none⟩) (l.length + 1) capn)) := by
    refine Mod.setCell (Mod.grown ((Mod.of_below hb5 _).alloc _) gr7 (fun k hk => .inl ?_)) (.inl (by simp)) _
    rw [← e3, hk]; simp
  have hG : Fr [gn] g w.heap.size := by
    intro k hk
    have : k = gn := by simpa using hk
    subst this
    rcases hlie with h | h
    · exact .inl (by rw [← e3, h]; simp)
    · right; have := hb5.size; simp at h; omega
  have HI := Lib.hid hI
  have HM := Lib.hid hM
  have HG := Lib.hid hG
  clear hI hM hG e1 e2 e3 e6 own6 own7 gr7 hlie hlt H5 hl1 hpb b6
  go_wp2_with (at_builtin; (with_reducible apply wpList_append_run hrun); rfl; rfl; rfl; rfl; rfl)
  go_ret
  exact ⟨rfl, _, HI.out, HM.out, HG.out⟩

/-- A row that holds somebody lies in a block of its own. -/
theorem Is.row (h : Is w p g Q l on) (hl : l ≠ []) : ∃ g0 cap, g = [g0] ∧ w.heap[p]? = some (.cells #[.int .i64 Q, .slice (some ⟨g0, 0, none⟩) l.length cap, .bool on] 116 (0, 0)) ∧ w.ownsRow 0 118 2 (.slice (some ⟨g0, 0, none⟩) l.length cap) l.length (l.flatMap c2) ∧ p ≠ g0 ∧ g0 < w.heap.size ∧ p < w.heap.size := by
  obtain ⟨a, cap, h1, h2, h3⟩ := h.h
  have hpos : 0 < l.length := List.length_pos_iff.2 hl
  have hlt := h2.lt
  obtain ⟨a', cap', hx, _, _, hr, _⟩ := rd_own h2
  simp only [Value.slice.injEq] at hx
  obtain ⟨rfl, _, rfl⟩ := hx
  have hne : l.flatMap c2 ≠ [] := by
    intro e
    have := fm_len l
    rw [e] at this
    simp at this
    omega
  obtain ⟨q, hq, _⟩ := hr.lt hne
  subst hq
  have hz : q = ⟨q.block, 0, none⟩ := by
    obtain ⟨_, ⟨hx, _⟩ | ⟨g', c', cur, hx, _⟩⟩ := h2
    · cases hx
    · simp only [Value.slice.injEq, Option.some.injEq] at hx
      rw [hx.1]
  rw [hz] at h1 h2 h3
  have e3 : g = [q.block] := h3.symm
  exact ⟨q.block, cap, e3, h1, h2, (by have := h.ne; rw [e3] at this; simpa using this), (h2.lt q.block rfl).2, block_lt h1⟩

set_option maxHeartbeats 1000000 in
set_option maxRecDepth 100000 in
theorem drop_no (x : Int) (w : World) (p : Nat) (g : List Nat) (Q : Int) (l : List (Int × Int)) (on : Bool) (h : Is w p g Q l on) (hl : l.length ≤ 1000000) (hf : ¬ fd l x < l.length) :
    Calls Tryd.prog 58 #[.pointer (some ⟨p, 0, none⟩), .int .i64 x] w fun e w' => e = .returned (.bool false) ∧ Below w.heap.size w w' := by
  obtain ⟨a, cap, h1, h2, _⟩ := h.h
  have k1 := cell_block h1 1
  have hF := find_c p a cap l.length l x w rfl (by omega) (Rd.own h2) k1
  rw [fdv_neg hf] at hF
  clear h h1 h2 k1 hf
  go_enter Tryd.func58, Tryd.ntmps58
  go_wp2_with (go_at_call 78; (with_reducible refine hF.mono ?_); rintro e w5 ⟨rfl, hb5⟩)
  go_ret
  exact ⟨rfl, hb5⟩

set_option maxHeartbeats 1000000 in
set_option maxRecDepth 100000 in
theorem drop_yes (x : Int) (w : World) (p : Nat) (g : List Nat) (Q : Int) (l : List (Int × Int)) (on : Bool) (h : Is w p g Q l on) (hl : l.length ≤ 1000000) (hf : fd l x < l.length) :
    Calls Tryd.prog 58 #[.pointer (some ⟨p, 0, none⟩), .int .i64 x] w fun e w' => e = .returned (.bool true) ∧ Is w' p g Q (l.eraseIdx (fd l x)) (on && decide (0 < fd l x)) ∧ Mod (p :: g) w w' := by
  obtain ⟨a, cap, h1, h2, h3⟩ := h.h
  have k1 := cell_block h1 1
  have hF := find_c p a cap l.length l x w rfl (by omega) (Rd.own h2) k1
  rw [fdv_nn hf] at hF
  obtain ⟨i, hi⟩ : ∃ i, fd l x = i := ⟨_, rfl⟩
  rw [hi] at hF hf ⊢
  have hlne : l ≠ [] := by rintro rfl; simp at hf
  have H := Lib.hid h
  clear h h1 h2 h3 k1 hi
  go_enter Tryd.func58, Tryd.ntmps58
  go_wp2_with fail
  refine hF.mono ?_
  rintro e w5 ⟨rfl, hb5⟩
  have H5 := H.out.below hb5
  obtain ⟨g0, c0, rfl, e1, e2, hne, hg0, hp0⟩ := H5.row hlne
  obtain ⟨n, hn⟩ : ∃ n, l.length = n := ⟨_, rfl⟩
  have k1 := cell_block e1 1
  have k2 := cell_block e1 2
  have f2 := frozen_block e1 2
  obtain ⟨b, hb⟩ : ∃ b, (on && decide (0 < i)) = b := ⟨_, rfl⟩
  have hbi : ∀ (h : on = true), decide (0 < i) = b := by
    intro h
    rw [← hb, h]
    simp
  have d1 : w5.setCell ⟨p, 2, none⟩ (.bool b) = w5.setCell ⟨p, 2, none⟩ (.bool b) := rfl
  have e1' : (w5.setCell ⟨p, 2, none⟩ (.bool b)).heap[p]? = some (.cells #[.int .i64 Q, .slice (some ⟨g0, 0, none⟩) l.length c0, .bool b] 116 (0, 0)) := by rw [block_setCell e1]; rfl
  have e2' : (w5.setCell ⟨p, 2, none⟩ (.bool b)).ownsRow 0 118 2 (.slice (some ⟨g0, 0, none⟩) l.length c0) l.length (l.flatMap c2) :=
    own_mod e2 ((Mod.refl [p] w5).setCell (.inl (by simp)) _) (by intro k hk hm; simp [Value.ownBlock] at hk hm; omega)
  have hD := del_c g0 n (n - 1) c0 i (i : Int) _ rfl rfl l (w5.setCell ⟨p, 2, none⟩ (.bool b)) hn (by omega) (by omega) (by rw [← hn]; exact e2')
  have m1 := cell_block e1' 1
  rw [hn] at k1 m1
  have E1 := Lib.hid e1'
  have Hn := Lib.hid hn
  have Hb := Lib.hid hb
  have HBi := Lib.hid hbi
  clear e1 e2 e1' e2' d1 H5 hn hb hbi hF
  have fin : ∀ (w6 : World), w6.ownsRow 0 118 2 (.slice (some ⟨g0, 0, none⟩) (n - 1) c0) (n - 1) ((l.eraseIdx i).flatMap c2) → Mod [g0] (w5.setCell ⟨p, 2, none⟩ (.bool b)) w6 →
      (∃ v, w6.cell? ⟨p, 1, none⟩ = some v) ∧ w6.frozen? ⟨p, 1, none⟩ = false ∧ Is (w6.setCell ⟨p, 1, none⟩ (.slice (some ⟨g0, 0, none⟩) (n - 1) c0)) p [g0] Q (l.eraseIdx i) b ∧ Mod (p :: [g0]) w (w6.setCell ⟨p, 1, none⟩ (.slice (some ⟨g0, 0, none⟩) (n - 1) c0)) := by
    intro w6 own6 hM6
    have e6 : w6.heap[p]? = some (.cells #[.int .i64 Q, .slice (some ⟨g0, 0, none⟩) l.length c0, .bool b] 116 (0, 0)) := by
      rw [hM6.block p (by simp; omega) (by simpa using hne)]; exact E1.out
    have hle : (l.eraseIdx i).length = n - 1 := by rw [List.length_eraseIdx, if_pos hf, Hn.out]
    refine ⟨⟨_, cell_block e6 1⟩, frozen_block e6 1, ?_, ?_⟩
    · have := Is.put (a := some ⟨g0, 0, none⟩) (cap := c0) (l := l.eraseIdx i) (g' := [g0]) e6 (by rw [hle]; exact own6) rfl (by simpa using hne) (fun h => by
        have h2 : 0 < i := by
          have h3 := Hb.out
          rw [h] at h3
          simp at h3
          exact h3.2
        intro e
        rw [e] at hle
        have := Hn.out
        simp at hle
        omega)
      rwa [hle] at this
    · refine Mod.setCell (Mod.trans ((Mod.of_below hb5 (p :: [g0])).setCell (.inl (by simp)) _) hM6 (fun k hk => .inl ?_)) (.inl (by simp)) _
      simp at hk ⊢
      exact .inr hk
  have Fin := Lib.hid fin
  clear fin
  cases on with
  | false =>
    have hbf : b = false := by rw [← Hb.out]; rfl
    subst hbf
    go_wp2_with fail
    refine hD.mono ?_
    rintro e w6 ⟨rfl, own6, hM6⟩
    obtain ⟨⟨v, k6⟩, f6, hI, hM⟩ := Fin.out w6 own6 hM6
    have HI := Lib.hid hI
    have HM := Lib.hid hM
    have HB := Lib.hid Hb.out
    clear hI hM own6 hM6
    go_wp2
    go_ret
    exact ⟨rfl, by rw [HB.out]; exact HI.out, HM.out⟩
  | true =>
    have hbb := HBi.out rfl
    go_wp2_with fail
    refine hD.mono ?_
    rintro e w6 ⟨rfl, own6, hM6⟩
    obtain ⟨⟨v, k6⟩, f6, hI, hM⟩ := Fin.out w6 own6 hM6
    have HI := Lib.hid hI
    have HM := Lib.hid hM
    have HB := Lib.hid Hb.out
    clear hI hM own6 hM6
    go_wp2
    go_ret
    exact ⟨rfl, by rw [HB.out]; exact HI.out, HM.out⟩

set_option maxHeartbeats 1000000 in
set_option maxRecDepth 100000 in
theorem has_c (x : Int) (w : World) (p : Nat) (g : List Nat) (Q : Int) (l : List (Int × Int)) (on : Bool) (h : Is w p g Q l on) (hl : l.length ≤ 1000000) :
    Calls Tryd.prog 56 #[.pointer (some ⟨p, 0, none⟩), .int .i64 x] w fun e w' => e = .returned (.bool (decide (fd l x < l.length))) ∧ Below w.heap.size w w' := by
  obtain ⟨a, cap, h1, h2, _⟩ := h.h
  have k1 := cell_block h1 1
  have hF := find_c p a cap l.length l x w rfl (by omega) (Rd.own h2) k1
  clear h h1 h2 k1
  by_cases hf : fd l x < l.length
  · rw [fdv_nn hf] at hF
    have hd : decide (fd l x < l.length) = true := by simpa using hf
    have Hd := Lib.hid hd
    clear hf hd
    go_enter Tryd.func56, Tryd.ntmps56
    go_wp2_with (go_at_call 78; (with_reducible refine hF.mono ?_); rintro e w5 ⟨rfl, hb5⟩)
    go_ret
    exact ⟨by rw [Hd.out]; rfl, hb5⟩
  · rw [fdv_neg hf] at hF
    have hd : decide (fd l x < l.length) = false := by simpa using hf
    have Hd := Lib.hid hd
    clear hf hd
    go_enter Tryd.func56, Tryd.ntmps56
    go_wp2_with (go_at_call 78; (with_reducible refine hF.mono ?_); rintro e w5 ⟨rfl, hb5⟩)
    go_ret
    exact ⟨by rw [Hd.out]; rfl, hb5⟩

/-- What a member has left over; 0 of one that is none. -/
def left (l : List (Int × Int)) (x : Int) : Int := match l[fd l x]? with | some z => z.2 | none => 0
set_option maxHeartbeats 1000000 in
set_option maxRecDepth 100000 in
theorem deficit_c (x : Int) (w : World) (p : Nat) (g : List Nat) (Q : Int) (l : List (Int × Int)) (on : Bool) (h : Is w p g Q l on) (hl : l.length ≤ 1000000) :
    Calls Tryd.prog 57 #[.pointer (some ⟨p, 0, none⟩), .int .i64 x] w fun e w' => e = .returned (.int .i64 (left l x)) ∧ Below w.heap.size w w' := by
  obtain ⟨a, cap, h1, h2, _⟩ := h.h
  have k1 := cell_block h1 1
  have hF := find_c p a cap l.length l x w rfl (by omega) (Rd.own h2) k1
  by_cases hf : fd l x < l.length
  · rw [fdv_nn hf] at hF
    have hd : left l x = l[fd l x].2 := by unfold left; rw [List.getElem?_eq_getElem hf]
    have Hd := Lib.hid hd
    have hlne : l ≠ [] := by rintro rfl; simp at hf
    obtain ⟨g0, c0, rfl, e1, e2, hne, hg0, hp0⟩ := h.row hlne
    have hr := Rd.own e2
    have Hr := Lib.hid hr
    have HE := Lib.hid e1
    clear hd h h1 h2 k1 e1 e2 hr
    obtain ⟨i, hi⟩ : ∃ i, fd l x = i := ⟨_, rfl⟩
    have HI := Lib.hid hi
    rw [hi] at hF hf
    clear hi
    obtain ⟨n, hn⟩ : ∃ n, l.length = n := ⟨_, rfl⟩
    have Hn := Lib.hid hn
    rw [hn] at hl hf
    clear hn
    go_enter Tryd.func57, Tryd.ntmps57
    go_wp2_with fail
    refine hF.mono ?_
    rintro e w5 ⟨rfl, hb5⟩
    have e5 : w5.heap[p]? = _ := (hb5.block p hp0).trans HE.out
    have k5 := cell_block e5 1
    rw [Hn.out] at k5
    obtain ⟨b, off, ha, hcs⟩ := (Hr.out.keep hb5).struct 2 (by intro z _; rfl) i (by rw [Hn.out]; exact hf) (by omega)
    simp only [Option.some.injEq, Addr.mk.injEq, and_true] at ha
    obtain ⟨rfl, rfl⟩ := ha
    have kx := hcs 1 _ rfl (by omega)
    rw [Nat.zero_add] at kx
    have hii : (i : Int) < n := by omega
    have hz : l[fd l x]'(by rw [HI.out, Hn.out]; exact hf) = l[i]'(by rw [Hn.out]; exact hf) := by simp only [HI.out]
    have Hz := Lib.hid hz
    clear e5 hcs hz
    go_wp2
    go_ret
    exact ⟨by rw [Hd.out, Hz.out]; rfl, hb5⟩
  · rw [fdv_neg hf] at hF
    have hd : left l x = 0 := by unfold left; rw [List.getElem?_eq_none (by omega)]
    have Hd := Lib.hid hd
    clear hf hd h h1 h2 k1
    go_enter Tryd.func57, Tryd.ntmps57
    go_wp2_with (go_at_call 78; (with_reducible refine hF.mono ?_); rintro e w5 ⟨rfl, hb5⟩)
    go_ret
    exact ⟨by rw [Hd.out]; rfl, hb5⟩

set_option maxHeartbeats 400000 in
set_option maxRecDepth 100000 in
theorem len_c (w : World) (p : Nat) (g : List Nat) (Q : Int) (l : List (Int × Int)) (on : Bool) (h : Is w p g Q l on) :
    Calls Tryd.prog 59 #[.pointer (some ⟨p, 0, none⟩)] w fun e w' => e = .returned (.int .i64 l.length) ∧ w = w' := by
  obtain ⟨a, cap, h1, h2, _⟩ := h.h
  have k1 := cell_block h1 1
  clear h h1 h2
  go_enter Tryd.func59, Tryd.ntmps59
  go_wp2
  go_ret
  exact ⟨rfl, rfl⟩

/-- Whose turn is on; -1 if none. -/
def onv (l : List (Int × Int)) (on : Bool) : Int := if on then (match l with | [] => -1 | z :: _ => z.1) else -1
set_option maxHeartbeats 400000 in
set_option maxRecDepth 100000 in
theorem on_c (w : World) (p : Nat) (g : List Nat) (Q : Int) (l : List (Int × Int)) (on : Bool) (h : Is w p g Q l on) (hl : l.length ≤ 1000000) :
    Calls Tryd.prog 68 #[.pointer (some ⟨p, 0, none⟩)] w fun e w' => e = .returned (.int .i64 (onv l on)) ∧ w = w' := by
  cases on with
  | false =>
    obtain ⟨a, cap, h1, h2, _⟩ := h.h
    have k2 := cell_block h1 2
    clear h h1 h2
    go_enter Tryd.func68, Tryd.ntmps68
    go_wp2
    go_ret
    exact ⟨rfl, rfl⟩
  | true =>
    have hlne := h.onne rfl
    obtain ⟨g0, c0, rfl, e1, e2, hne, hg0, hp0⟩ := h.row hlne
    have hr := Rd.own e2
    cases l with
    | nil => exact absurd rfl hlne
    | cons z l =>
      have k2 := cell_block e1 2
      have k1 := cell_block e1 1
      obtain ⟨b, off, ha, hcs⟩ := hr.struct 2 (by intro z _; rfl) 0 (by simp) (by omega)
      simp only [Option.some.injEq, Addr.mk.injEq, and_true] at ha
      obtain ⟨rfl, rfl⟩ := ha
      have kx := hcs 0 _ rfl (by omega)
      have hpos : (0 : Int) < ((z :: l).length : Int) := by simp
      have hpn : 0 < (z :: l).length := by simp
      obtain ⟨n, hn⟩ : ∃ n, (z :: l).length = n := ⟨_, rfl⟩
      rw [hn] at hpos k1 hpn
      simp only [Nat.zero_mul, Nat.add_zero, List.getElem_cons_zero] at kx
      clear h e1 e2 hr hcs hlne hn hl
      go_enter Tryd.func68, Tryd.ntmps68
      go_wp2
      go_ret
      exact ⟨rfl, rfl⟩
end Rb
end Go.Proofs.YtjohljpcoodijaaDoor
