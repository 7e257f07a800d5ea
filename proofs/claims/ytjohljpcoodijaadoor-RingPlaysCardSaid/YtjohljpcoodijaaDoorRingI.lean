/- The walks of ring.Ring[int]: New, Put, Take, Len, Room, Counts. Condition where an error is answered: the sentinels read as laid. -/
import Derived.Test.YtjohljpcoodijaaDoorRingDef
import Derived.Test.YtjohljpcoodijaaDoorErr
namespace Go.Proofs.YtjohljpcoodijaaDoor
open Go Go.RowKit Kt Rg
namespace RgI

def fv (x : Int) : Value := .int .i64 x
abbrev Is (w : World) (p g room first : Nat) (q : List (Int)) (put taken : Nat) : Prop := At fv 123 3 w p g room first q put taken
theorem el : El Tryd.prog 32 3 (.int .i64 0) 1 8 := ⟨Tryd.underlying32, info_parts (by kernel_rfl), rfl, by decide⟩

set_option maxHeartbeats 400000 in
set_option maxRecDepth 100000 in
theorem slot_c (i : Nat) (w : World) (p room first : Nat) (sa : Option Addr) (k0 : w.cell? ⟨p, 0, none⟩ = some (.slice sa room room)) (k1 : w.cell? ⟨p, 1, none⟩ = some (.int .i64 first)) (hf : first < room) (hr : room ≤ 32) (hi : i ≤ 1000) :
    Calls Tryd.prog 82 #[.pointer (some ⟨p, 0, none⟩), .int .i64 i] w fun e w' => e = .returned (.int .i64 (((first + i) % room : Nat) : Int)) ∧ ∃ n, w.drewN n = w' := by
  have hz : ((room : Int) == 0) = false := by simp; omega
  have hpos : (1 : Int) ≤ room := by omega
  go_enter Tryd.func82, Tryd.ntmps82
  go_wp2
  go_quiet (fail)
  go_wp2
  go_ret
  exact ⟨by simp, _, rfl⟩
theorem slot_n (i ix : Nat) (I : Int) (hI : I = (i : Int)) (w : World) (p room first : Nat) (sa : Option Addr) (hix : (first + i) % room = ix) (k0 : w.cell? ⟨p, 0, none⟩ = some (.slice sa room room)) (k1 : w.cell? ⟨p, 1, none⟩ = some (.int .i64 first)) (hf : first < room) (hr : room ≤ 32) (hi : i ≤ 1000) :
    Calls Tryd.prog 82 #[.pointer (some ⟨p, 0, none⟩), .int .i64 I] w fun e w' => e = .returned (.int .i64 ix) ∧ ∃ n, w.drewN n = w' := by
  subst hI hix
  exact slot_c i w p room first sa k0 k1 hf hr hi

set_option maxHeartbeats 1000000 in
set_option maxRecDepth 100000 in
theorem put_ok (x : Int) (w : World) (p g room first : Nat) (q : List (Int)) (put taken : Nat) (h : Is w p g room first q put taken) (hq : q.length < room) (hput : put ≤ 1000000) :
    Calls Tryd.prog 35 #[.pointer (some ⟨p, 0, none⟩), .int .i64 x] w fun e w' => e = .returned .nilIface ∧ Is w' p g room first (q ++ [x]) (put + 1) taken ∧ Mod [p, g] w w' := by
  have hr := h.hroom
  have hne : ((q.length : Int) == (room : Int)) = false := by simp; omega
  have Hall := Lib.hid h
  have k0 := h.c0
  have k2 := h.c2
  clear h
  go_enter Tryd.func35, Tryd.ntmps35
  go_wp2
  go_quiet (fail)
  go_wp2
  have H1 := Hall.out.drewN nq
  have M1 := (Mod.refl [p, g] w).drewN nq
  generalize w.drewN nq = w1 at *
  clear k0 k2
  have k0 := H1.c0
  have k2 := H1.c2
  have H2 := H1.putd x hq
  obtain ⟨ix, hix⟩ : ∃ ix, (first + q.length) % room = ix := ⟨_, rfl⟩
  obtain ⟨gv, kg⟩ := H1.gcell ((first + q.length) % room) (Nat.mod_lt _ (by omega))
  have hgf := H1.gfr ((first + q.length) % room)
  have hlt : ((((first + q.length) % room : Nat)) : Int) < room := by have := Nat.mod_lt (first + q.length) (show 0 < room by omega); omega
  have hpg := H1.hne
  rw [hix] at H2 kg hgf hlt
  have Hix := Lib.hid hix
  have HH := Lib.hid H1
  have HM := Lib.hid M1
  have H2' := Lib.hid H2
  clear hix H1 M1 H2
  go_cut [] (fun W => ∃ n, W = (w1.drewN n).setCell ⟨g, ix, none⟩ (.int .i64 x))
  case first =>
    go_region_law (first | (((with_reducible apply step_call (slot_n q.length ix _ rfl _ p room first (some ⟨g, 0, none⟩) Hix.out HH.out.drew.c0 HH.out.drew.c1 HH.out.hfirst (by omega) (by omega)) Tryd.func82 (by kernel_rfl) (by kernel_rfl)); rfl; rfl; rfl); rintro e w' ⟨rfl, n, rfl⟩; refine ⟨_, rfl, ?_⟩))
    all_goals
      go_wp2
      go_meet
      case rel => exact ⟨_, rfl⟩
  case rest =>
    obtain ⟨n, rfl⟩ := hcut
    have k3 := HH.out.c3
    have f2 := HH.out.fr 2
    have f3 := HH.out.fr 3
    clear kg hgf hlt
    go_wp2
    go_ret
    have H3 := (HH.out.drewN n).putd x hq
    rw [Hix.out] at H3
    exact ⟨rfl, H3, (((HM.out.drewN n).setCell (.inl (by simp)) _).setCell (.inl (by simp)) _).setCell (.inl (by simp)) _⟩

set_option maxHeartbeats 1000000 in
set_option maxRecDepth 100000 in
theorem put_full (A : Nat → Addr) (v : Value) (w : World) (p g room first : Nat) (q : List (Int)) (put taken : Nat) (h : Is w p g room first q put taken) (hq : q.length = room) (hs : Sent 152 w A [4]) :
    Calls Tryd.prog 35 #[.pointer (some ⟨p, 0, none⟩), v] w fun e w' => e = .returned (Er.ev A 4) ∧ ∃ n, w.drewN n = w' := by
  have hc := hs.cell 4 (by simp)
  have hne : ((q.length : Int) == (room : Int)) = true := by simp; omega
  have k0 := h.c0
  have k2 := h.c2
  clear h hq hs
  go_enter Tryd.func35, Tryd.ntmps35
  go_wp2
  go_quiet (fail)
  go_wp2
  go_ret
  exact ⟨rfl, _, rfl⟩

set_option maxHeartbeats 400000 in
set_option maxRecDepth 100000 in
theorem len_c (w : World) (p g room first : Nat) (q : List (Int)) (put taken : Nat) (h : Is w p g room first q put taken) :
    Calls Tryd.prog 39 #[.pointer (some ⟨p, 0, none⟩)] w fun e w' => e = .returned (.int .i64 q.length) ∧ ∃ n, w.drewN n = w' := by
  have k2 := h.c2
  clear h
  go_enter Tryd.func39, Tryd.ntmps39
  go_wp2
  try go_quiet (fail)
  try go_wp2
  go_ret
  first | exact ⟨rfl, _, rfl⟩ | exact ⟨rfl, 0, rfl⟩

set_option maxHeartbeats 400000 in
set_option maxRecDepth 100000 in
theorem room_c (w : World) (p g room first : Nat) (q : List (Int)) (put taken : Nat) (h : Is w p g room first q put taken) :
    Calls Tryd.prog 41 #[.pointer (some ⟨p, 0, none⟩)] w fun e w' => e = .returned (.int .i64 ((room : Int) - q.length)) ∧ ∃ n, w.drewN n = w' := by
  have k2 := h.c2
  have k0 := h.c0
  have h1 := h.hmany
  have h2 := h.hroom
  clear h
  go_enter Tryd.func41, Tryd.ntmps41
  go_wp2
  try go_quiet (fail)
  try go_wp2
  go_ret
  first | exact ⟨rfl, _, rfl⟩ | exact ⟨rfl, 0, rfl⟩

set_option maxHeartbeats 400000 in
set_option maxRecDepth 100000 in
theorem counts_c (w : World) (p g room first : Nat) (q : List (Int)) (put taken : Nat) (h : Is w p g room first q put taken) :
    Calls Tryd.prog 53 #[.pointer (some ⟨p, 0, none⟩)] w fun e w' => e = .returned (.tuple #[.int .i64 put, .int .i64 taken]) ∧ ∃ n, w.drewN n = w' := by
  have k3 := h.c3
  have k4 := h.c4
  clear h
  go_enter Tryd.func53, Tryd.ntmps53
  go_wp2
  try go_quiet (fail)
  try go_wp2
  go_ret2
  first | exact ⟨rfl, _, rfl⟩ | exact ⟨rfl, 0, rfl⟩

set_option maxHeartbeats 400000 in
set_option maxRecDepth 100000 in
theorem new_ok (room : Nat) (R : Int) (hR : R = (room : Int)) (w : World) (h1 : 1 ≤ room) (h2 : room ≤ 32) :
    Calls Tryd.prog 32 #[.int .i64 R] w fun e w' => ∃ p g, e = .returned (.tuple #[.pointer (some ⟨p, 0, none⟩), .nilIface]) ∧ Is w' p g room 0 [] 0 0 ∧ w.heap.size ≤ p ∧ w.heap.size ≤ g ∧ Below w.heap.size w w' := by
  subst hR
  obtain ⟨w1, hrun, own, gr⟩ := el.make w.heap.size w .i64 .i64 (room : Int) room rfl (by omega) (by unfold maxLen; omega) (Nat.le_refl _)
  have hb := below_made gr (Nat.le_refl w.heap.size)
  have O := Lib.hid own
  have B := Lib.hid hb
  clear own gr hb
  go_enter Tryd.func32, Tryd.ntmps32
  go_wp2
  go_ret2
  refine ⟨w1.heap.size, w.heap.size, rfl, ?_, B.out.size, Nat.le_refl _, B.out.alloc B.out.size _⟩
  obtain ⟨_, ⟨hx, _⟩ | ⟨g', cap, cur, hx, _, hh, _, _, hsz, _⟩⟩ := O.out
  · cases hx
  · simp only [Value.slice.injEq, Option.some.injEq, Addr.mk.injEq, and_true, true_and] at hx
    obtain ⟨rfl, rfl⟩ := hx
    exact ⟨heap_alloc_new w1 _, ⟨cur, block_alloc hh, by simpa using hsz, fun k hk => absurd hk (by simp)⟩, by omega, by simp, h2, by have := block_lt hh; omega⟩

set_option maxHeartbeats 400000 in
set_option maxRecDepth 100000 in
theorem new_bad (A : Nat → Addr) (R : Int) (w : World) (h : R < 1 ∨ 32 < R) (hs : Sent 152 w A [1]) :
    Calls Tryd.prog 32 #[.int .i64 R] w fun e w' => e = .returned (.tuple #[.pointer none, Er.ev A 1]) ∧ ∃ n, w.drewN n = w' := by
  have hc := hs.cell 1 (by simp)
  clear hs
  rcases h with h | h
  · go_enter Tryd.func32, Tryd.ntmps32
    go_wp2
    go_quiet (fail)
    go_wp2
    go_ret2
    exact ⟨rfl, _, rfl⟩
  · have hn : decide (R < 1) = false := by simp; omega
    go_enter Tryd.func32, Tryd.ntmps32
    go_wp2
    go_quiet (fail)
    go_wp2
    go_ret2
    exact ⟨rfl, _, rfl⟩

def cells (l : List (Int)) : List Value := l.map fv
set_option maxHeartbeats 2000000 in
set_option maxRecDepth 100000 in
theorem take_c (most : Int) (w : World) (p g room first : Nat) (q : List (Int)) (put taken : Nat) (h : Is w p g room first q put taken) (ht : taken + q.length ≤ 1000000) :
    Calls Tryd.prog 37 #[.pointer (some ⟨p, 0, none⟩), .int .i64 most] w fun e w' => ∃ v first', e = .returned v ∧ w'.ownsRow w.heap.size 3 1 v (q.take most.toNat).length (cells (q.take most.toNat)) ∧
      Is w' p g room first' (q.drop most.toNat) put (taken + (q.take most.toNat).length) ∧ Mod [p, g] w w' := by
  have hm := h.hmany
  have hr := h.hroom
  have hpl := h.plt
  have hgl := h.glt
  go_enter Tryd.func37, Tryd.ntmps37
  go_wp2
  go_loopw [5] (fun v W => ∃ k first', k ≤ most.toNat ∧ k ≤ q.length ∧ W.ownsRow w.heap.size 3 1 v k (cells (q.take k)) ∧ Is W p g room first' (q.drop k) put (taken + k) ∧ Mod [p, g] w W) (fun v _ => room - lenOf v)
  case atStart => exact ⟨0, first, Nat.zero_le _, Nat.zero_le _, World.ownsRow_nil _ _ _ _, h, Mod.refl _ _⟩
  case round =>
    obtain ⟨k, f1, hk1, hk2, own, hI, hM⟩ := hrel
    obtain ⟨va, vc, rfl, v1, v2, v3, v4⟩ := rd_own own
    by_cases hgo : k < most.toNat ∧ k < q.length
    · obtain ⟨hg1, hg2⟩ := hgo
      have hd1 : decide ((k : Int) < most) = true := by simp; omega
      have hcons : q.drop k = q[k] :: q.drop (k + 1) := List.drop_eq_getElem_cons hg2
      have htk : q.take (k + 1) = q.take k ++ [q[k]] := by simp
      rw [hcons] at hI
      generalize q[k] = x at *
      have Hcons := Lib.hid hcons
      have Htk := Lib.hid htk
      clear hcons htk
      obtain ⟨rest, hrest⟩ : ∃ rest, q.drop (k + 1) = rest := ⟨_, rfl⟩
      have hrl : rest.length = q.length - (k + 1) := by rw [← hrest, List.length_drop]
      rw [hrest] at hI
      have hr32 : rest.length ≤ 32 := by omega
      have Hrest := Lib.hid hrest
      clear hrest
      have k0 := hI.c0
      have k1 := hI.c1
      have k2 := hI.c2
      have hf1 := hI.hfirst
      have kg := hI.gat 0 (by simp)
      rw [Nat.add_zero, Nat.mod_eq_of_lt hf1] at kg
      simp only [fv, List.getElem_cons_zero] at kg
      simp only [List.length_cons] at k2
      have hpos : decide (0 < rest.length + 1) = true := by simp
      have hposi : decide ((0 : Int) < (rest.length : Int) + 1) = true := decide_eq_true (by omega)
      have bA := ((Below.refl wr.heap.size wr).alloc (Nat.le_refl _) (.cells #[.int .i64 x] 3)).drew
      have ownA := own_keep own bA
      have rA : Rd (wr.alloc (.cells #[.int .i64 x] 3)).drew (some ⟨wr.heap.size, 0, none⟩) [fv x] := (Rd.new wr #[.int .i64 x] 3 (0, 0) [fv x] rfl).keep ((Below.refl _ _).drew)
      obtain ⟨v', w2, hrun, own2, gr2, _⟩ := el.append w.heap.size (ty := 32) ownA 1 1 rfl rA (fun h => by cases h) (by intro u hu; simp at hu; subst hu; rfl) (by unfold maxLen; omega) (by omega) (by have := hM.size; simp; try omega)
      have hM2 : Mod [p, g] w w2 := (hM.below bA).grown gr2 (fun k hk => .inr ((own.lt k hk).1))
      have hI2 : Is w2 p g room f1 (x :: rest) put (taken + k) := (hI.below bA).mod (Mod.of_grown gr2) (by
        intro hm
        have := (own.lt p (by simpa using hm)).1
        omega) (by
        intro hm
        have := (own.lt g (by simpa using hm)).1
        omega)
      have hfi : (f1 : Int) < room := by omega
      have O2 := Lib.hid own2
      have HM := Lib.hid hM2
      have HI := Lib.hid hI2
      have HL := Lib.hid hrl
      clear hM hI own own2 gr2 hM2 hI2 ownA rA bA v3 v4 hrl
      go_wp2
      go_cut [5] (fun s W => s = v' ∧ W = w2)
      case first =>
        go_region_law (first | ((with_reducible apply step_append_run hrun); rfl; rfl; rfl; rfl; rfl))
        all_goals
          go_wp2
          go_meet
          case rel => exact ⟨by simp, rfl⟩
      case rest =>
        obtain ⟨rfl, rfl⟩ := hcut
        clear k0 k1 k2 kg hrun
        have k0 := HI.out.c0
        have k1 := HI.out.c1
        have k2 := HI.out.c2
        have k4 := HI.out.c4
        simp only [List.length_cons] at k2
        have z1 := HI.out.fr 1
        have z2 := HI.out.fr 2
        have z4 := HI.out.fr 4
        have kg := HI.out.gat 0 (by simp)
        rw [Nat.add_zero, Nat.mod_eq_of_lt hf1] at kg
        have hgf := HI.out.gfr f1
        have hpg := HI.out.hne
        have HN := (HI.out).took x (.int .i64 0)
        have hix : (f1 + 1) % room < room := Nat.mod_lt _ (by omega)
        obtain ⟨ix, hixe⟩ : ∃ ix, (f1 + 1) % room = ix := ⟨_, rfl⟩
        rw [hixe] at HN
        have Hix := Lib.hid hixe
        have HN2 := Lib.hid HN
        clear HN hixe hix
        go_wp2
        go_cut [] (fun W => ∃ n, W = (wc.drewN n).setCell ⟨g, f1, none⟩ (.int .i64 0))
        case first =>
          go_region_law (fail)
          all_goals
            go_wp2
            go_meet
            case rel => exact ⟨1, rfl⟩
        case rest =>
          obtain ⟨n5, rfl⟩ := hcut
          have e0 : ((wc.drewN n5).setCell ⟨g, f1, none⟩ (.int .i64 0)).cell? ⟨p, 0, none⟩ = some (.slice (some ⟨g, 0, none⟩) room room) := by
            rw [World.cell?_of_block (w := wc.drewN n5) (block_setOther hpg (.int .i64 0))]; exact k0
          have e1 : ((wc.drewN n5).setCell ⟨g, f1, none⟩ (.int .i64 0)).cell? ⟨p, 1, none⟩ = some (.int .i64 f1) := by
            rw [World.cell?_of_block (w := wc.drewN n5) (block_setOther hpg (.int .i64 0))]; exact k1
          go_wp2_with (go_at_call 82; (with_reducible refine (slot_n 1 ix _ (by simp) _ p room f1 _ Hix.out e0 e1 hf1 hr (by omega)).mono ?_); rintro e w' ⟨rfl, n6, rfl⟩)
          have M := (((((Mod.refl [p, g] wc).drewN n5).setCell (p := ⟨g, f1, none⟩) (.inl (by simp)) (.int .i64 0)).drewN n6).setCell (p := ⟨p, 1, none⟩) (.inl (by simp)) (.int .i64 ix)).setCell (p := ⟨p, 2, none⟩) (.inl (by simp)) (.int .i64 rest.length)
          have M4 := M.setCell (p := ⟨p, 4, none⟩) (.inl (by simp)) (.int .i64 ((taken : Int) + k + 1))
          have hO := own_mod O2.out M4 (by
            intro j hj hm
            have := (O2.out.lt j hj).1
            simp at hm
            omega)
          have HT := ((HI.out.drewN n5).drewN n6).took x (.int .i64 0)
          rw [Hix.out] at HT
          have hMM := HM.out.trans M4 (fun j hj => .inl hj)
          have HO := Lib.hid hO
          have HTT := Lib.hid HT
          have HMM := Lib.hid hMM
          have hlv : lenOf u5 = k + 1 := by
            obtain ⟨a5, c5, h5, _⟩ := rd_own O2.out
            rw [h5]; rfl
          go_roundw
          case rel => exact ⟨k + 1, ix, hg1, hg2, by rw [Htk.out, cells, List.map_append]; exact HO.out, by rw [Hrest.out, show taken + (k + 1) = taken + k + 1 by omega]; exact HTT.out, HMM.out⟩
          case measure => rw [hlv]; show room - (k + 1) < room - k; omega
    · have hmin : q.take most.toNat = q.take k ∧ q.drop most.toNat = q.drop k ∧ (q.take k).length = k := by
        by_cases h1 : k < most.toNat
        · have : k = q.length := by omega
          subst this
          exact ⟨by rw [List.take_of_length_le (by omega), List.take_of_length_le (Nat.le_refl _)], by rw [List.drop_of_length_le (by omega), List.drop_of_length_le (Nat.le_refl _)], by simp⟩
        · have : most.toNat = k := by omega
          rw [this]
          exact ⟨rfl, rfl, by simp; omega⟩
      have HMin := Lib.hid hmin
      have HI := Lib.hid hI
      have HM := Lib.hid hM
      have HO := Lib.hid own
      by_cases h1 : (k : Int) < most
      · have hd1 : decide ((k : Int) < most) = true := decide_eq_true h1
        have hkq : k = q.length := by omega
        have k2 := hI.c2
        rw [List.length_drop, hkq, Nat.sub_self] at k2
        clear hmin hI hM own v3 v4 hgo h1 hkq
        go_wp2
        go_ret
        refine ⟨_, f1, rfl, ?_, ?_, HM.out⟩
        · rw [HMin.out.1, HMin.out.2.2]; exact HO.out
        · rw [HMin.out.1, HMin.out.2.1, HMin.out.2.2]; exact HI.out
      · have hd1 : decide ((k : Int) < most) = false := decide_eq_false h1
        clear hmin hI hM own v3 v4 hgo h1
        go_wp2
        go_ret
        refine ⟨_, f1, rfl, ?_, ?_, HM.out⟩
        · rw [HMin.out.1, HMin.out.2.2]; exact HO.out
        · rw [HMin.out.1, HMin.out.2.1, HMin.out.2.2]; exact HI.out
end RgI
end Go.Proofs.YtjohljpcoodijaaDoor
