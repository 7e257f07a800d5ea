/- The walks of package robin: Turn, Done, Members. Condition where an error is answered: the sentinels read as laid. -/
import Derived.Test.YtjohljpcoodijaaDoorRobin
namespace Go.Proofs.YtjohljpcoodijaaDoor
open Go Go.RowKit Kt
namespace Rb
variable {w w' : World} {p : Nat} {g : List Nat} {Q : Int} {l : List (Int × Int)} {on : Bool}

set_option maxHeartbeats 400000 in
set_option maxRecDepth 100000 in
theorem turn_on (A : Nat → Addr) (w : World) (p : Nat) (g : List Nat) (Q : Int) (l : List (Int × Int)) (h : Is w p g Q l true) (hs : Sent 152 w A rb3) :
    Calls Tryd.prog 24 #[.pointer (some ⟨p, 0, none⟩)] w fun e w' => e = .returned (.tuple #[.int .i64 0, .int .i64 0, Er.ev A 2]) ∧ Below w.heap.size w w' := by
  have hc := hs.cell 2 (by simp [rb3])
  obtain ⟨a, cap, h1, h2, _⟩ := h.h
  have k2 := cell_block h1 2
  clear h h1 h2 hs
  go_enter Tryd.func24, Tryd.ntmps24
  go_wp2
  go_quiet (fail)
  go_wp2
  go_ret3
  exact ⟨rfl, below_drewN (Below.refl _ _) _⟩
set_option maxHeartbeats 400000 in
set_option maxRecDepth 100000 in
theorem turn_none (A : Nat → Addr) (w : World) (p : Nat) (g : List Nat) (Q : Int) (h : Is w p g Q [] false) (hs : Sent 152 w A rb3) :
    Calls Tryd.prog 24 #[.pointer (some ⟨p, 0, none⟩)] w fun e w' => e = .returned (.tuple #[.int .i64 0, .int .i64 0, Er.ev A 3]) ∧ Below w.heap.size w w' := by
  have hc := hs.cell 3 (by simp [rb3])
  obtain ⟨a, cap, h1, h2, _⟩ := h.h
  have k2 := cell_block h1 2
  have k1 := cell_block h1 1
  clear h h1 h2 hs
  go_enter Tryd.func24, Tryd.ntmps24
  go_wp2
  go_quiet (fail)
  go_wp2
  go_ret3
  exact ⟨rfl, below_drewN (Below.refl _ _) _⟩
set_option maxHeartbeats 1000000 in
set_option maxRecDepth 100000 in
theorem turn_ok (m d : Int) (r : List (Int × Int)) (w : World) (p : Nat) (g : List Nat) (Q : Int) (h : Is w p g Q ((m, d) :: r) false) (hd : 0 ≤ d) (hd2 : d ≤ 1000000000) (hQ : 0 ≤ Q) (hQ2 : Q ≤ 1000000000) (hl : r.length ≤ 1000000) :
    Calls Tryd.prog 24 #[.pointer (some ⟨p, 0, none⟩)] w fun e w' => e = .returned (.tuple #[.int .i64 m, .int .i64 (d + Q), .nilIface]) ∧ Is w' p g Q ((m, d + Q) :: r) true ∧ Mod (p :: g) w w' := by
  obtain ⟨g0, c0, rfl, e1, e2, hne, hg0, hp0⟩ := h.row (by simp)
  obtain ⟨n, hn⟩ : ∃ n, ((m, d) :: r).length = n := ⟨_, rfl⟩
  have hpos : (0 : Int) < (n : Int) := by rw [← hn]; simp
  have hpn : 0 < n := by rw [← hn]; simp
  have hn0 : ((n : Int) == 0) = false := by simp; omega
  have k0 := cell_block e1 0
  have k1 := cell_block e1 1
  have k2 := cell_block e1 2
  have f2 := frozen_block e1 2
  have f1 := World.ownsRow.frozenAt e2 1
  have kd := World.ownsRow.cellAt e2 1 (by simp; omega)
  have km := World.ownsRow.cellAt e2 0 (by simp)
  have hng : g0 ≠ p := fun e => hne e.symm
  have e1' : ((w.setCell ⟨p, 2, none⟩ (.bool true))).heap[p]? = some (.cells #[.int .i64 Q, .slice (some ⟨g0, 0, none⟩) ((m, d + Q) :: r).length c0, .bool true] 116 (0, 0)) := by rw [block_setCell e1]; rfl
  have e2' := own_mod e2 ((Mod.refl [p] w).setCell (p := ⟨p, 2, none⟩) (.inl (by simp)) (.bool true)) (by intro k hk hm; simp [Value.ownBlock] at hk hm; omega)
  have fin : ∀ W', Below ((w.setCell ⟨p, 2, none⟩ (.bool true)).setCell ⟨g0, 1, none⟩ (.int .i64 (d + Q))).heap.size ((w.setCell ⟨p, 2, none⟩ (.bool true)).setCell ⟨g0, 1, none⟩ (.int .i64 (d + Q))) W' → Is W' p [g0] Q ((m, d + Q) :: r) true ∧ Mod (p :: [g0]) w W' := by
    intro W' hW
    refine ⟨Is.below ⟨⟨some ⟨g0, 0, none⟩, c0, ?_, ?_, rfl⟩, by simpa using hne, by simp⟩ hW, (((Mod.refl _ _).setCell (.inl (by simp)) _).setCell (.inl (by simp)) _).below hW⟩
    · exact (block_setOther (k := p) (i := 1) hne _).trans e1'
    · exact (World.ownsRow.stored e2' 1 (.int .i64 (d + Q))).1
  have Fin := Lib.hid fin
  rw [hn] at k1
  clear fin e1 e2 e1' e2' h hn
  simp [c2] at kd km
  go_enter Tryd.func24, Tryd.ntmps24
  go_wp2
  go_region
  go_wp2
  go_quiet (fail)
  go_wp2
  go_ret3
  exact ⟨rfl, Fin.out _ (below_drewN (Below.refl _ _).drew _)⟩

set_option maxHeartbeats 400000 in
set_option maxRecDepth 100000 in
theorem done_off (A : Nat → Addr) (s v : Value) (w : World) (p : Nat) (g : List Nat) (Q : Int) (l : List (Int × Int)) (h : Is w p g Q l false) (hs : Sent 152 w A rb3) :
    Calls Tryd.prog 25 #[.pointer (some ⟨p, 0, none⟩), s, v] w fun e w' => e = .returned (Er.ev A 2) ∧ Below w.heap.size w w' := by
  have hc := hs.cell 2 (by simp [rb3])
  obtain ⟨a, cap, h1, h2, _⟩ := h.h
  have k2 := cell_block h1 2
  clear h h1 h2 hs
  go_enter Tryd.func25, Tryd.ntmps25
  go_wp2
  go_ret
  exact ⟨rfl, Below.refl _ _⟩
set_option maxHeartbeats 1000000 in
set_option maxRecDepth 100000 in
theorem done_bad (A : Nat → Addr) (m d s : Int) (v : Value) (r : List (Int × Int)) (w : World) (p : Nat) (g : List Nat) (Q : Int) (h : Is w p g Q ((m, d) :: r) true) (hsp : s < 0 ∨ d < s) (hs : Sent 152 w A rb3) :
    Calls Tryd.prog 25 #[.pointer (some ⟨p, 0, none⟩), .int .i64 s, v] w fun e w' => e = .returned (Er.ev A 1) ∧ Below w.heap.size w w' := by
  have hc := hs.cell 1 (by simp [rb3])
  obtain ⟨g0, c0, rfl, e1, e2, hne, hg0, hp0⟩ := h.row (by simp)
  obtain ⟨n, hn⟩ : ∃ n, ((m, d) :: r).length = n := ⟨_, rfl⟩
  have hpos : (0 : Int) < (n : Int) := by rw [← hn]; simp
  have hpn : 0 < n := by rw [← hn]; simp
  have k1 := cell_block e1 1
  have k2 := cell_block e1 2
  have kd := World.ownsRow.cellAt e2 1 (by simp; omega)
  rw [hn] at k1
  simp [c2] at kd
  clear e1 e2 h hn hs
  by_cases h0 : s < 0
  · have hb : decide (s < 0) = true := by simpa using h0
    clear h0 hsp
    go_enter Tryd.func25, Tryd.ntmps25
    go_wp2
    go_ret
    exact ⟨rfl, Below.refl _ _⟩
  · have hb : decide (s < 0) = false := by simpa using h0
    have hb2 : decide (d < s) = true := by simp; omega
    clear h0 hsp
    go_enter Tryd.func25, Tryd.ntmps25
    go_wp2
    go_ret
    exact ⟨rfl, Below.refl _ _⟩
set_option maxHeartbeats 2000000 in
set_option maxRecDepth 100000 in
theorem done_ok (m d s : Int) (stays : Bool) (r : List (Int × Int)) (w : World) (p : Nat) (g : List Nat) (Q : Int) (h : Is w p g Q ((m, d) :: r) true) (hs0 : 0 ≤ s) (hsd : s ≤ d) (hd2 : d ≤ 1000000000) (hl : r.length ≤ 1000000) :
    Calls Tryd.prog 25 #[.pointer (some ⟨p, 0, none⟩), .int .i64 s, .bool stays] w fun e w' => e = .returned .nilIface ∧ (∃ g', Is w' p g' Q (if stays then r ++ [(m, d - s)] else r) false ∧ Fr g' g w.heap.size) ∧ Mod (p :: g) w w' := by
  obtain ⟨g0, c0, rfl, e1, e2, hne, hg0, hp0⟩ := h.row (by simp)
  have hng : g0 ≠ p := fun e => hne e.symm
  have hb : decide (s < 0) = false := by simp; omega
  have hb2 : decide (d < s) = false := by simp; omega
  have b1 := (Below.refl w.heap.size w).alloc (Nat.le_refl _) (.cells #[.int .i64 m, .int .i64 (d - s)] 118)
  have e1b : (w.alloc (.cells #[.int .i64 m, .int .i64 (d - s)] 118)).heap[p]? = _ := block_alloc e1
  have e2b := own_keep e2 b1
  have hD := del_c g0 (r.length + 1) r.length c0 0 0 1 rfl rfl ((m, d) :: r) _ rfl (by simp) rfl e2b
  rw [List.eraseIdx_cons_zero] at hD
  have k1 := cell_block e1 1
  have k2 := cell_block e1 2
  have kd := World.ownsRow.cellAt e2 1 (by simp; omega)
  have km := World.ownsRow.cellAt e2 0 (by simp)
  have hpos : (0 : Int) < (r.length : Int) + 1 := by omega
  simp [c2] at kd km
  simp only [List.length_cons] at k1
  have E1 := Lib.hid e1b
  have B1 := Lib.hid b1
  clear e1 e2 e1b e2b h b1
  go_enter Tryd.func25, Tryd.ntmps25
  go_wp2_with fail
  refine hD.mono ?_
  rintro e w6 ⟨rfl, own6, hM6⟩
  have e6 : w6.heap[p]? = _ := (hM6.block p (block_lt E1.out) (by simpa using hne)).trans E1.out
  obtain ⟨z, hz⟩ : ∃ z, w.heap.size = z := ⟨_, rfl⟩
  have hzg : z ≠ g0 := by omega
  have hzp : z ≠ p := by omega
  have z6 : w6.heap[z]? = some (.cells #[.int .i64 m, .int .i64 (d - s)] 118 (0, 0)) := by
    rw [hM6.block z (by simp; omega) (by simpa using hzg), ← hz]
    exact heap_alloc_new w _
  have own7 := own_mod own6 (((Mod.refl [p] w6).setCell (p := ⟨p, 1, none⟩) (.inl (by simp)) (.slice (some ⟨g0, 0, none⟩) r.length c0)).setCell (p := ⟨p, 2, none⟩) (.inl (by simp)) (.bool false)) (by intro k hk hm; simp [Value.ownBlock] at hk hm; omega)
  have e7 : (((w6.setCell ⟨p, 1, none⟩ (.slice (some ⟨g0, 0, none⟩) r.length c0)).setCell ⟨p, 2, none⟩ (.bool false))).heap[p]? = some (.cells #[.int .i64 Q, .slice (some ⟨g0, 0, none⟩) r.length c0, .bool false] 116 (0, 0)) := by
    rw [block_setCell (block_setCell e6 _)]; rfl
  have hM7 : Mod (p :: [g0]) w ((w6.setCell ⟨p, 1, none⟩ (.slice (some ⟨g0, 0, none⟩) r.length c0)).setCell ⟨p, 2, none⟩ (.bool false)) := by
    refine (((Mod.of_below B1.out (p :: [g0])).trans hM6 (fun k hk => .inl ?_)).setCell (.inl (by simp)) _).setCell (.inl (by simp)) _
    simp at hk ⊢
    exact .inr hk
  have hI7 : Is ((w6.setCell ⟨p, 1, none⟩ (.slice (some ⟨g0, 0, none⟩) r.length c0)).setCell ⟨p, 2, none⟩ (.bool false)) p [g0] Q r false :=
    ⟨⟨_, c0, e7, own7, rfl⟩, by simpa using hne, by simp⟩
  have k61 := cell_block e6 1
  have k62 := cell_block e6 2
  have f61 := frozen_block e6 1
  have f62 := frozen_block e6 2
  have z60 := cell_block z6 0
  have z61 := cell_block z6 1
  cases stays with
  | false =>
    have HI := Lib.hid hI7
    have HM := Lib.hid hM7
    clear hI7 hM7 e7 own7 z6 e6 own6 hM6 hD z60 z61
    rw [hz]
    go_wp2
    go_ret
    exact ⟨rfl, ⟨_, HI.out, fun k hk => .inl hk⟩, HM.out⟩
  | true =>
    obtain ⟨W7, hW7⟩ : ∃ W7, ((w6.setCell ⟨p, 1, none⟩ (.slice (some ⟨g0, 0, none⟩) r.length c0)).setCell ⟨p, 2, none⟩ (.bool false)) = W7 := ⟨_, rfl⟩
    rw [hW7] at own7 e7 hM7 hI7
    have b8 := ((Below.refl W7.heap.size W7).alloc (Nat.le_refl _) (.cells #[.int .i64 m, .int .i64 (d - s)] 118)).drew
    have own8 := own_keep own7 b8
    obtain ⟨gn, capn, w8, hrun, own9, gr9, hlie, hlt⟩ := el.lies 0 (ty := 114) own8 1 1 (news := c2 (m, d - s)) rfl (by omega) ((Rd.new W7 #[.int .i64 m, .int .i64 (d - s)] 118 (0, 0) _ rfl).keep (Below.refl _ _).drew) (by intro u hu; simp [c2] at hu; rcases hu with rfl | rfl <;> rfl) (by unfold maxLen; omega) (by omega) (Nat.zero_le _)
    have hzs : W7.heap.size = w6.heap.size := by rw [← hW7]; simp
    rw [hzs] at hrun
    have hplt := block_lt e7
    have hpn : p ≠ gn := by
      rcases hlie with h | h
      · simp [Value.ownBlock] at h; omega
      · simp at h; omega
    have e9 : w8.heap[p]? = some (.cells #[.int .i64 Q, .slice (some ⟨g0, 0, none⟩) r.length c0, .bool false] 116 (0, 0)) := by
      rw [gr9.block p (by simp; omega) (by simp [Value.ownBlock]; omega)]
      exact block_alloc e7
    have k9 := cell_block e9 1
    have f9 := frozen_block e9 1
    have hl1 : (r ++ [(m, d - s)]).length = r.length + 1 := by simp
    have hI := Is.put (a := some ⟨gn, 0, none⟩) (cap := capn) (l := r ++ [(m, d - s)]) (g' := [gn]) e9 (by rw [hl1, List.flatMap_append]; simpa using own9) rfl (by simpa using hpn) (fun _ => by simp)
    rw [hl1] at hI
    have hM : Mod (p :: [g0]) w (w8.setCell ⟨p, 1, none⟩ (.slice (some ⟨gn, 0, none⟩) (r.length + 1) capn)) := by
      refine Mod.setCell (Mod.grown (hM7.below b8) gr9 (fun k hk => .inl ?_)) (.inl (by simp)) _
      simp [Value.ownBlock] at hk
      simp [hk]
    have hG : Fr [gn] [g0] w.heap.size := by
      intro k hk
      have : k = gn := by simpa using hk
      subst this
      rcases hlie with h | h
      · left; simp [Value.ownBlock] at h; simp [h]
      · right; have := hM7.size; simp at h; omega
    have ka := cell_block (block_alloc (x := .cells #[.int .i64 m, .int .i64 (d - s)] 118) e7) 1
    have HI := Lib.hid hI
    have HM := Lib.hid hM
    have HG := Lib.hid hG
    have HW := Lib.hid hW7
    clear hzs hI7 hM7 e7 own7 z6 e6 own6 hM6 hD b8 own8 own9 gr9 hlie hlt e9 hl1 hI hM hG
    rw [hz]
    subst hW7
    go_wp2
    go_region_law (first | ((with_reducible apply step_append_run hrun); rfl; rfl; rfl; rfl; rfl))
    all_goals
      go_wp2
      go_ret
      exact ⟨rfl, ⟨_, HI.out, by rw [← hz]; exact HG.out⟩, HM.out⟩
end Rb
end Go.Proofs.YtjohljpcoodijaaDoor
