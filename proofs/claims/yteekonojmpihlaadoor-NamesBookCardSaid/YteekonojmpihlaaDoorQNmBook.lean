import Derived.Test.YteekonojmpihlaaDoorQNmFind
import Derived.Shelf.SlMaps.Clone
import Derived.Deep.RegionHeld3
/- Package names: New, All, Copy; slices.Clone over texts, maps.Clone over nodes (the shelf's structure laid at the seat). -/
namespace Go.Proofs.YteekonojmpihlaaDoor
namespace Kt
end Kt
namespace St
end St
namespace Sp
end Sp
namespace Bk
end Bk
namespace Tr
end Tr
open Go Go.RowKit Go.Shelf Kt St Sp Bk Tr
namespace Bo
def mclone_ren : Go.Shelf.Ren := ⟨fun | 5 => 63 | 7 => 91 | n => n,
  fun | 3 => 37 | 4 => 4 | 20 => 20 | 23 => 107 | 25 => 9 | n => n,
  fun n => n⟩
set_option maxRecDepth 100000 in
theorem mcloneL : Go.Proofs.SlLaysW.n5 Tryd.prog mclone_ren := {
  mixed := by kernel_rfl,
  f5 := ⟨Tryd.f63.name, by kernel_rfl, Tryd.func63.trans (by kernel_rfl)⟩,
  f7 := Tryd.func91.trans (by kernel_rfl),
  t4 := by kernel_rfl,
  a4 := fun _ => by kernel_rfl,
  z4 := fun _ => by kernel_rfl,
  v4 := fun _ => by kernel_rfl,
  t20 := by kernel_rfl,
  a20 := fun _ => by kernel_rfl,
  z20 := fun _ => by kernel_rfl,
  v20 := fun _ => by kernel_rfl,
  t23 := by kernel_rfl,
  a23 := fun _ => by kernel_rfl,
  z23 := fun _ => by kernel_rfl,
  v23 := fun _ => by kernel_rfl }
theorem mclone_c (mb n : Nat) (Ts : Bks) (w : World) (h : MapG Tryd.prog nv rdn ndw 9 nil0 w mb n Ts) :
    Calls Tryd.prog 63 #[.map (some mb)] w fun e w' => e = .returned (.map (some w.heap.size)) ∧ MapG Tryd.prog nv rdn ndw 9 nil0 w' w.heap.size n Ts ∧ Below w.heap.size w w' := by
  obtain ⟨D, h1, h2⟩ := h.ex
  exact (AnyW.maps_Clone_owns mcloneL 9 rdn mb n D w h1).mono fun e w' ⟨e1, e2, _, e4⟩ => ⟨e1, ⟨⟨D, e2, h2⟩, h.nd⟩, e4⟩
set_option maxHeartbeats 1000000 in
set_option maxRecDepth 100000 in
/-- slices.Clone over texts. -/
theorem clone_s (a : Option Addr) (l : List (List UInt8)) (n c : Nat) (w : World) (hn : l.length = n) (h6 : n ≤ 1000000) (hno : a = none → c = 0 ∧ n = 0) (hr : Rd w a (l.map fun t => .string (Str t))) :
    Calls Tryd.prog 62 #[.slice a n c] w fun e w' => ∃ a' c', e = .returned (.slice a' n c') ∧ w'.ownsRow w.heap.size 9 1 (.slice a' n c') n (l.map fun t => .string (Str t)) ∧ Below w.heap.size w w' := by
  have hnl := fun w a n c n2 c2 => Lib.run_eql_slice_nil (P := Tryd.prog) w 38 9 a n c n2 c2 Tryd.underlying38
  cases a with
  | none =>
    obtain ⟨rfl, rfl⟩ := hno rfl
    have hk : l = [] := List.eq_nil_of_length_eq_zero hn
    subst hk
    go_enter Tryd.func62, Tryd.ntmps62
    go_wp2
    go_ret
    exact ⟨none, 0, rfl, World.ownsRow_nil _ _ _ _, Below.refl _ _⟩
  | some p =>
    have own0 := World.ownsRow_made (base := w.heap.size) (e := 9) (size := 1) w #[] 0 (Nat.le_refl _) (by decide) rfl
    have hb := (Below.refl w.heap.size w).alloc (Nat.le_refl _) (.cells #[] 9)
    obtain ⟨a', c', w2, hrun, own2, gr2, _⟩ := (show El Tryd.prog _ _ _ 1 16 from elStr).any w.heap.size (ty := 38) own0 n c (by simp [hn]) (hr.keep hb) (fun h => by cases h) (by intro u hu; obtain ⟨t, _, rfl⟩ := List.mem_map.1 hu; rfl) (by unfold maxLen; omega) (by omega) hb.size
    have hb2 := hb.trans (below_grown own0 gr2 (Nat.le_refl _) hb.size)
    simp only [Nat.zero_add, List.nil_append] at own2 hrun
    have O := Lib.hid own2
    have B := Lib.hid hb2
    clear own0 own2 hb hb2 gr2 hr hn hno
    go_enter Tryd.func62, Tryd.ntmps62
    go_wp2_with (at_builtin; (with_reducible apply wpList_append_run hrun); rfl; rfl; rfl; rfl; rfl)
    go_ret
    exact ⟨a', c', rfl, O.out, B.out⟩
set_option maxRecDepth 100000 in
theorem new_c (X : List Nat) (w : World) : Calls Tryd.prog 32 #[] w fun e w' => ∃ p L, e = .returned (.pointer (some ⟨p, 0, none⟩)) ∧ BK w' p L X [] ∧ (∀ b ∈ L, w.heap.size ≤ b) ∧ Below w.heap.size w w' := by
  have z1 : (w.alloc (.map #[] 0)).heap.size = w.heap.size + 1 := by simp
  have hbk : BK ((w.alloc (.map #[] 0)).alloc (.cells #[.slice none 0 0, .map (some w.heap.size)] 109 (0, 0))) (w.heap.size + 1) [w.heap.size + 1, w.heap.size] X [] := by
    have hl := World.alloc_heap_new (w.alloc (.map #[] 0)) (.cells #[.slice none 0 0, .map (some w.heap.size)] 109 (0, 0))
    rw [z1] at hl
    refine ⟨none, 0, w.heap.size, 0, [], ⟨hl, World.ownsRow_nil _ _ _ _, (MapG.made w Tryd.prog 9 nil0).below ((Below.refl _ _).alloc (Nat.le_refl _) _), rfl, by omega, by simp [Value.ownBlock], by decide, by simp⟩, rfl, (by intro q hq; cases hq), rfl⟩
  have hB : Below w.heap.size w ((w.alloc (.map #[] 0)).alloc (.cells #[.slice none 0 0, .map (some w.heap.size)] 109 (0, 0))) := ((Below.refl _ w).alloc (Nat.le_refl _) _).alloc (by simp) _
  have H := Lib.hid (And.intro hbk hB)
  clear hbk hB z1
  have hmm := @run_makeMap Tryd.prog
  go_enter Tryd.func32, Tryd.ntmps32
  go_wp2
  go_ret
  exact ⟨_, _, rfl, H.out.1, by simp, H.out.2⟩
set_option maxRecDepth 100000 in
theorem all_c (p : Nat) (L X : List Nat) (B : Bks) (w : World) (h : BK w p L X B) : Calls Tryd.prog 21 #[.pointer (some ⟨p, 0, none⟩)] w fun e w' => ∃ a c, e = .returned (.slice a B.length c) ∧ w'.ownsRow w.heap.size 9 1 (.slice a B.length c) B.length (snames B) ∧ Below w.heap.size w w' := by
  obtain ⟨g, c, mb, n, Ts, h1, rfl, h3, rfl⟩ := h.ex
  have k0 := cell_block h1.hp 0
  simp only [List.getElem?_toArray, List.getElem?_cons_zero, List.getElem?_cons_succ] at k0
  have hs : snames (erB Ts) = (Ts.map (·.1)).map fun t => .string (Str t) := by simp [snames, erB]
  have hl : (erB Ts).length = n := by simp [erB, h1.hn]
  rw [hs, hl]
  have hc := clone_s g (Ts.map (·.1)) n c w (by simp [h1.hn]) (by have := h1.le; omega) (fun hg => by have := h1.ho; rw [hg] at this; exact own_none this) (by have := Rd.own h1.ho; rw [List.map_map]; exact this)
  have HC := Lib.hid hc
  clear hc hs hl h1 h3 h
  go_enter Tryd.func21, Tryd.ntmps21
  go_wp2_with fail
  with_reducible refine HC.out.mono ?_
  rintro e w2 ⟨a', c', rfl, own2, hb2⟩
  go_wp2
  go_ret
  exact ⟨a', c', rfl, own2, hb2⟩
set_option maxRecDepth 100000 in
set_option maxHeartbeats 2000000 in
theorem copy_c (p : Nat) (L X : List Nat) (B : Bks) (w : World) (h : BK w p L X B) : Calls Tryd.prog 16 #[.pointer (some ⟨p, 0, none⟩)] w fun e w' => ∃ p' L', e = .returned (.pointer (some ⟨p', 0, none⟩)) ∧ BK w' p' L' X B ∧ (∀ b ∈ L', w.heap.size ≤ b) ∧ Below w.heap.size w w' := by
  obtain ⟨g, c, mb, n, Ts, h1, rfl, h3, rfl⟩ := h.ex
  have hs : ∀ W : World, Below w.heap.size w W → W.cell? ⟨p, 0, none⟩ = some (.slice g n c) ∧ W.cell? ⟨p, 1, none⟩ = some (.map (some mb)) := fun W hb => by
    have := (hb.block _ (block_lt h1.hp)).trans h1.hp
    exact ⟨cell_block this 0, cell_block this 1⟩
  have hc := fun (W : World) (hb : Below w.heap.size w W) => clone_s g (Ts.map (·.1)) n c W (by simp [h1.hn]) (by have := h1.le; omega) (fun hg => by have := h1.ho; rw [hg] at this; exact own_none this) ((by have := Rd.own h1.ho; rw [List.map_map]; exact this : Rd w g ((Ts.map (·.1)).map fun t => .string (Str t))).keep hb)
  have hm := fun (W : World) (hb : Below w.heap.size w W) => mclone_c mb n Ts W (h1.hm.below hb)
  have hfin : ∀ (w2 w3 : World) (a' : Option Addr) (c' : Nat), Below w.heap.size w w2 → w2.ownsRow w.heap.size 9 1 (.slice a' n c') n ((Ts.map (·.1)).map fun t => .string (Str t)) → MapG Tryd.prog nv rdn ndw 9 nil0 w3 w2.heap.size n Ts → Below w2.heap.size w2 w3 →
      BK (w3.alloc (.cells #[.slice a' n c', .map (some w2.heap.size)] 109 (0, 0))) w3.heap.size (Lof w3.heap.size w2.heap.size a' n c') X (erB Ts) ∧ (∀ b ∈ Lof w3.heap.size w2.heap.size a' n c', w.heap.size ≤ b) ∧ Below w.heap.size w (w3.alloc (.cells #[.slice a' n c', .map (some w2.heap.size)] 109 (0, 0))) := by
    intro w2 w3 a' c' hb2 own2 mp3 hb3
    have hlt := mp3.lt
    have hb4 : Below w3.heap.size w3 (w3.alloc (.cells #[.slice a' n c', .map (some w2.heap.size)] 109 (0, 0))) := (Below.refl _ _).alloc (Nat.le_refl _) _
    have hb : Below w.heap.size w (w3.alloc (.cells #[.slice a' n c', .map (some w2.heap.size)] 109 (0, 0))) := (hb2.trans (hb3.mono hb2.size)).trans (hb4.mono (Nat.le_trans hb2.size hb3.size))
    have hrow : ∀ b ∈ (Value.slice a' n c').ownBlock.toList, w.heap.size ≤ b ∧ b < w2.heap.size := fun b hb => ⟨(own2.lt b (by simpa using hb)).1, (own2.lt b (by simpa using hb)).2⟩
    have hz := hb2.size
    have hL : ∀ b ∈ Lof w3.heap.size w2.heap.size a' n c', w.heap.size ≤ b := fun b hb => by
      simp only [List.mem_cons] at hb
      rcases hb with rfl | rfl | hb
      · omega
      · omega
      · exact (hrow b hb).1
    refine ⟨⟨a', c', w2.heap.size, n, Ts, ⟨World.alloc_heap_new _ _, ?_, mp3.below hb4, h1.hn, by omega, fun b hb => by have := (hrow b hb).2; omega, h1.le, h1.nm⟩, rfl, ?_, rfl⟩, hL, hb⟩
    · have := own_keep (own_keep own2 hb3) hb4
      rw [List.map_map] at this
      exact own_base this (Nat.zero_le _)
    · refine (h3.sub (Z' := Lof w3.heap.size w2.heap.size a' n c' ++ X) fun b hb => ?_).mod (Mod.of_below hb []) (by simp)
      rcases List.mem_append.1 hb with hb | hb
      · exact .inr (hL b hb)
      · exact .inl (List.mem_append_right _ hb)
  have HS := Lib.hid hs
  have HC := Lib.hid hc
  have HM := Lib.hid hm
  have HF := Lib.hid hfin
  obtain ⟨s0, s1⟩ := hs w (Below.refl _ _)
  clear hs hc hm hfin h1 h3 h
  go_enter Tryd.func16, Tryd.ntmps16
  go_wp2_with fail
  have n0 : Below w.heap.size w w.drew := (Below.refl _ _).drew
  refine wp_region_noPanic ?_
  refine wp_region_held_drew (S := fun W => W.cell? ⟨p, 0, none⟩ = some (.slice g n c) ∧ W.cell? ⟨p, 1, none⟩ = some (.map (some mb))) (by kernel_rfl) (HS.out _ n0) (fun hHeld => ?_)
  (refine wpAnyH_take (i := 0) (v := ?v0n1) (by simp only [List.getElem?_toArray, List.getElem?_cons_succ, List.getElem?_cons_zero]; rfl) (by kernel_rfl) (by kernel_rfl) (by kernel_rfl) (fun _ _ _ h => False.elim h) (Or.inl ⟨by rfl, ?hy0n1⟩) (by assumption) ?rest0n1; (case hy0n1 => (intro w hSw; (try dsimp only at hSw); go_simp; (try with_reducible rfl))); (try simp only [Act.put, List.setIfInBounds_toArray, List.set_cons_zero, List.set_cons_succ]))
  (refine wpAnyH_take (i := 1) (v := ?v1n2) (by simp only [List.getElem?_toArray, List.getElem?_cons_succ, List.getElem?_cons_zero]; rfl) (by kernel_rfl) (by kernel_rfl) (by kernel_rfl) (fun _ _ _ h => False.elim h) (Or.inl ⟨by rfl, ?hy1n2⟩) (by assumption) ?rest1n2; (case hy1n2 => (intro w hSw; (try dsimp only at hSw); go_simp; (try with_reducible rfl))); (try simp only [Act.put, List.setIfInBounds_toArray, List.set_cons_zero, List.set_cons_succ]))
  (refine wpAnyH_take (i := 2) (v := ?v2n3) (by simp only [List.getElem?_toArray, List.getElem?_cons_succ, List.getElem?_cons_zero]; rfl) (by kernel_rfl) (by kernel_rfl) (by kernel_rfl) (fun _ _ _ h => False.elim h) (Or.inl ⟨by rfl, ?hy2n3⟩) (by assumption) ?rest2n3; (case hy2n3 => (intro w hSw; (try dsimp only at hSw); go_simp; (try with_reducible rfl))); (try simp only [Act.put, List.setIfInBounds_toArray, List.set_cons_zero, List.set_cons_succ]))
  (refine wpAnyH_take (i := 3) (v := ?v3n4) (by simp only [List.getElem?_toArray, List.getElem?_cons_succ, List.getElem?_cons_zero]; rfl) (by kernel_rfl) (by kernel_rfl) (by kernel_rfl) (fun _ _ _ h => False.elim h) (Or.inl ⟨by rfl, ?hy3n4⟩) (by assumption) ?rest3n4; (case hy3n4 => (intro w hSw; (try dsimp only at hSw); go_simp; (try with_reducible rfl))); (try simp only [Act.put, List.setIfInBounds_toArray, List.set_cons_zero, List.set_cons_succ]))
  (refine wpAnyH_take (i := 5) (v := ?v5n5) (by simp only [List.getElem?_toArray, List.getElem?_cons_succ, List.getElem?_cons_zero]; rfl) (by kernel_rfl) (by kernel_rfl) (by kernel_rfl) (fun _ _ _ h => False.elim h) (Or.inl ⟨by rfl, ?hy5n5⟩) (by assumption) ?rest5n5; (case hy5n5 => (intro w hSw; (try dsimp only at hSw); go_simp; (try with_reducible rfl))); (try simp only [Act.put, List.setIfInBounds_toArray, List.set_cons_zero, List.set_cons_succ]))
  (refine wpAnyH_take (i := 6) (v := ?v6n6) (by simp only [List.getElem?_toArray, List.getElem?_cons_succ, List.getElem?_cons_zero]; rfl) (by kernel_rfl) (by kernel_rfl) (by kernel_rfl) (fun _ _ _ h => False.elim h) (Or.inl ⟨by rfl, ?hy6n6⟩) (by assumption) ?rest6n6; (case hy6n6 => (intro w hSw; (try dsimp only at hSw); go_simp; (try with_reducible rfl))); (try simp only [Act.put, List.setIfInBounds_toArray, List.set_cons_zero, List.set_cons_succ]))
  (refine wpAnyH_take (i := 7) (v := ?v7n7) (by simp only [List.getElem?_toArray, List.getElem?_cons_succ, List.getElem?_cons_zero]; rfl) (by kernel_rfl) (by kernel_rfl) (by kernel_rfl) (fun _ _ _ h => False.elim h) (Or.inl ⟨by rfl, ?hy7n7⟩) (by assumption) ?rest7n7; (case hy7n7 => (intro w hSw; (try dsimp only at hSw); go_simp; (try with_reducible rfl))); (try simp only [Act.put, List.setIfInBounds_toArray, List.set_cons_zero, List.set_cons_succ]))
  (refine wpAnyH_take (i := 8) (v := ?v8n8) (by simp only [List.getElem?_toArray, List.getElem?_cons_succ, List.getElem?_cons_zero]; rfl) (by kernel_rfl) (by kernel_rfl) (by kernel_rfl) (fun _ _ _ h => False.elim h) (Or.inl ⟨by rfl, ?hy8n8⟩) (by assumption) ?rest8n8; (case hy8n8 => (intro w hSw; (try dsimp only at hSw); go_simp; (try with_reducible rfl))); (try simp only [Act.put, List.setIfInBounds_toArray, List.set_cons_zero, List.set_cons_succ]))
  (refine wpAnyH_ready (rs := [4]) (by kernel_rfl) (by simp) ?_; refine AllReadyH.cons (o := _) (by simp only [List.getElem?_toArray, List.getElem?_cons_succ, List.getElem?_cons_zero]; rfl) (fun K hK => ?_) AllReadyH.nil; go_simp; ((with_reducible refine (HC.out _ n0).mono ?_); rintro e w2 ⟨a', c', rfl, own2, hb2⟩; have n1 := n0.trans (hb2.mono n0.size)); refine hK.out _ _ (by exact HS.out _ n1) (fun hHeld => ?_); clear hK K; (try simp only [Act.put, List.setIfInBounds_toArray, List.set_cons_zero, List.set_cons_succ]))
  (refine wpAnyH_ready (rs := [9]) (by kernel_rfl) (by simp) ?_; refine AllReadyH.cons (o := _) (by simp only [List.getElem?_toArray, List.getElem?_cons_succ, List.getElem?_cons_zero]; rfl) (fun K hK => ?_) AllReadyH.nil; go_simp; ((with_reducible refine (HM.out _ n1).mono ?_); rintro e w3 ⟨rfl, mp3, hb3⟩; have n2 := n1.trans (hb3.mono n1.size)); refine hK.out _ _ (by exact HS.out _ n2) (fun hHeld => ?_); clear hK K; (try simp only [Act.put, List.setIfInBounds_toArray, List.set_cons_zero, List.set_cons_succ]))
  (refine wpAnyH_take (i := 10) (v := ?v10n9) (by simp only [List.getElem?_toArray, List.getElem?_cons_succ, List.getElem?_cons_zero]; rfl) (by kernel_rfl) (by kernel_rfl) (by kernel_rfl) (fun _ _ _ h => False.elim h) (Or.inl ⟨by rfl, ?hy10n9⟩) (by assumption) ?rest10n9; (case hy10n9 => (intro w hSw; (try dsimp only at hSw); go_simp; (try with_reducible rfl))); (try simp only [Act.put, List.setIfInBounds_toArray, List.set_cons_zero, List.set_cons_succ]))
  (refine wpAnyH_ready (rs := [11]) (by kernel_rfl) (by simp) ?_; refine AllReadyH.cons (o := _) (by simp only [List.getElem?_toArray, List.getElem?_cons_succ, List.getElem?_cons_zero]; rfl) (fun K hK => ?_) AllReadyH.nil; go_simp; (skip); refine hK.out _ _ (by exact HS.out _ (n2.alloc n2.size _)) (fun hHeld => ?_); clear hK K; (try simp only [Act.put, List.setIfInBounds_toArray, List.set_cons_zero, List.set_cons_succ]))
  (refine wpAnyH_take (i := 12) (v := ?v12n10) (by simp only [List.getElem?_toArray, List.getElem?_cons_succ, List.getElem?_cons_zero]; rfl) (by kernel_rfl) (by kernel_rfl) (by kernel_rfl) (fun _ _ _ h => False.elim h) (Or.inl ⟨by rfl, ?hy12n10⟩) (by assumption) ?rest12n10; (case hy12n10 => (intro w hSw; (try dsimp only at hSw); go_simp; (try with_reducible rfl))); (try simp only [Act.put, List.setIfInBounds_toArray, List.set_cons_zero, List.set_cons_succ]))
  refine wpAnyH_done (by kernel_rfl) ?_ _
  refine NoPanic.normal ?_
  have hre := HF.out w2 w3 a' c' n1 (own_base own2 n0.size) mp3 hb3
  have HRe := Lib.hid hre
  clear hre own2 mp3 hb2 hb3 n0 n1 n2 hHeld
  go_wp2
  go_ret
  exact ⟨_, _, rfl, HRe.out⟩
end Bo
end Go.Proofs.YteekonojmpihlaaDoor
