import Derived.Test.YtpjimmdpcpcmoaaDoorQChnDrop2
/- (*chain.Chain).Clear, slices.Contains over ints, chain.New. Condition: the sentinels read as laid. -/
namespace Go.Proofs.YtpjimmdpcpcmoaaDoor
open Go Go.RowKit Kt
namespace Ch
open Po
variable {w w' w2 w3 W : World} {k p : Nat} {L L' L2 S S' M l l' : List Nat} {m m' m2 : Md} {c c' : Cn} {acc : Int} {frm many came went : Nat}
set_option maxRecDepth 100000 in
theorem clear_c {w0 : World} (E : Nat → Addr) (hx : (Lit.int .i64 c.acc).wf = true) (hs : Sent 169 w0 E Er.egs) (hB : Bs w0 w k L S) (h : CS w p k L S m l c) (hb : c.came ≤ 1000000000) :
    Calls Tryd.prog 44 #[.pointer (some ⟨k, 0, none⟩)] w fun e w' => e = .returned (.tuple #[]) ∧ St w p k L S m c.acc (drp m.size c c.all.length) w' := by
  have hd := drop_yes E c.all.length hx hs hB h hb (Nat.le_refl _)
  obtain ⟨_, _, _, _, _, _, _, k4, _⟩ := h.C.cells
  generalize hdc : drp m.size c c.all.length = dc at *
  generalize c.all.length = many at *
  have HD := Lib.hid hd
  clear hd h hs hB hx hb hdc
  go_enter Tryd.func44, Tryd.ntmps44
  go_wp2_with (go_at_call 37; (with_reducible refine HD.out.mono ?_); rintro e w2 ⟨rfl, h2⟩; have H2 := Lib.hid h2; clear h2)
  go_end0
  exact ⟨rfl, H2.out⟩
set_option maxRecDepth 100000 in
theorem index_c (a : Option Addr) (cap : Nat) (zs : List Int) (x : Int) (w : World) (hl : zs.length ≤ 1000000) (hr : Rd w a (i64s zs)) :
    Calls Tryd.prog 76 #[.slice a zs.length cap, .int .i64 x] w fun e w' => (∃ r : Int, e = .returned (.int .i64 r) ∧ (0 ≤ r ↔ x ∈ zs)) ∧ w = w' := by
  obtain ⟨n, hn⟩ : ∃ n, zs.length = n := ⟨_, rfl⟩
  have HR := Lib.hid hr
  have HN := Lib.hid hn
  rw [hn] at hl ⊢
  clear hr hn
  go_enter Tryd.func76, Tryd.ntmps76
  go_wp2
  go_loopw [5, 8] (fun _ i W => ∃ j : Nat, j ≤ n ∧ i = .int .i64 (j : Int) ∧ (∀ q ∈ zs.take j, q ≠ x) ∧ w = W) (fun _ i _ => n - (cj i).toNat)
  case atStart => exact ⟨0, Nat.zero_le _, rfl, by simp, rfl⟩
  case round =>
    obtain ⟨j, hj, rfl, hno, rfl⟩ := hrel
    by_cases hjn : j < n
    · have hjl : j < zs.length := by rw [HN.out]; exact hjn
      obtain ⟨b, off, ha, hc⟩ := HR.out.i64 j hjl
      have hmem : zs[j] ∈ zs := List.getElem_mem hjl
      have hnx : zs.take (j + 1) = zs.take j ++ [zs[j]] := List.take_succ_eq_append_getElem hjl
      subst ha
      generalize zs[j] = y at *
      by_cases hxy : x = y
      · subst hxy
        have HM := Lib.hid hmem
        clear hno hnx hmem
        go_wp2
        go_ret
        exact ⟨⟨(j : Int), rfl, ⟨fun _ => HM.out, fun _ => by omega⟩⟩, rfl⟩
      · have hb : (x == y) = false := by simpa using hxy
        have HNo := Lib.hid (And.intro hno (And.intro hnx hxy))
        clear hno hnx hxy hmem
        go_wp2
        go_roundw
        case rel =>
          refine ⟨j + 1, by omega, by go_num, fun q hq => ?_, by first | rfl | trivial⟩
          rw [HNo.out.2.1] at hq
          rcases List.mem_append.1 hq with h | h
          · exact HNo.out.1 q h
          · simp only [List.mem_singleton] at h
            subst h
            exact fun e => HNo.out.2.2 e.symm
        case measure => simp [cj]; omega
    · obtain rfl : j = n := by omega
      have hall : x ∉ zs := fun hm => by
        have h1 := HN.out
        rw [← h1, List.take_length] at hno
        exact hno x hm rfl
      have HA := Lib.hid hall
      clear hno hall
      go_wp2
      go_ret
      exact ⟨⟨-1, rfl, ⟨fun h => by omega, fun h => absurd h HA.out⟩⟩, rfl⟩
theorem contains_c (a : Option Addr) (cap : Nat) (zs : List Int) (x : Int) (w : World) (hl : zs.length ≤ 1000000) (hr : Rd w a (i64s zs)) :
    Calls Tryd.prog 56 #[.slice a zs.length cap, .int .i64 x] w fun e w' => e = .returned (.bool (decide (x ∈ zs))) ∧ w = w' := by
  have hi := index_c a cap zs x w hl hr
  generalize zs.length = n at *
  have HI := Lib.hid hi
  clear hi hr
  go_enter Tryd.func56, Tryd.ntmps56
  go_wp2_with fail
  with_reducible refine HI.out.mono ?_
  rintro e w2 ⟨⟨r, rfl, hr⟩, rfl⟩
  by_cases h0 : 0 ≤ r
  · have hd : decide ((0 : Int) ≤ r) = true := decide_eq_true h0
    have HM := Lib.hid (decide_eq_true (hr.1 h0))
    clear hr
    go_wp2
    go_ret
    exact ⟨by rw [HM.out]; rfl, rfl⟩
  · have hd : decide ((0 : Int) ≤ r) = false := decide_eq_false h0
    have HM := Lib.hid (decide_eq_false (fun h => h0 (hr.2 h)))
    clear hr
    go_wp2
    go_ret
    exact ⟨by rw [HM.out]; rfl, rfl⟩
end Ch
end Go.Proofs.YtpjimmdpcpcmoaaDoor

/- chain.New. Condition: the sentinels read as laid. -/
namespace Go.Proofs.YtpjimmdpcpcmoaaDoor
open Go Go.RowKit Kt
namespace Ch
open Po
variable {w w' w2 w3 W : World} {k p : Nat} {L L' L2 S S' M l l' : List Nat} {m m' m2 : Md} {c c' : Cn} {acc : Int} {frm many came went : Nat}
/-- The two calls ahead: is the account there? -/
theorem accs_c (x : Int) (h : PI w p L m) : Calls Tryd.prog 15 #[.pointer (some ⟨p, 0, none⟩)] w fun e w' => ∃ a n cap, e = .returned (.slice a n cap) ∧ Below w.heap.size w w' ∧
    Calls Tryd.prog 56 #[.slice a n cap, .int .i64 x] w' fun e w'' => e = .returned (.bool (crd m.acc x).isSome) ∧ w' = w'' := by
  refine (accounts_c w h).mono ?_
  rintro e w' ⟨v, zs, rfl, hp, _, _, ho, hb⟩
  obtain ⟨a, cap, rfl, _⟩ := rd_own ho
  have hlen : zs.length ≤ 64 := by rw [hp.length_eq, List.length_map]; exact h.ok.a1
  refine ⟨a, zs.length, cap, rfl, hb, (contains_c a cap zs x w' (by omega) (Rd.own ho)).mono fun _ _ ⟨h1, h2⟩ => ⟨?_, h2⟩⟩
  rw [h1]
  congr 2
  cases hc : crd m.acc x with
  | none =>
    rw [crd_none] at hc
    simp only [Option.isSome_none, decide_eq_false_iff_not]
    exact fun e => hc (hp.mem_iff.1 e)
  | some q =>
    simp only [Option.isSome_some, decide_eq_true_eq]
    exact hp.mem_iff.2 (List.mem_map.2 ⟨_, crd_mem hc, rfl⟩)
set_option maxRecDepth 100000 in
set_option maxHeartbeats 1000000 in
theorem new_yes (x : Int) (hx : (Lit.int .i64 x).wf = true) (h : PI w p L m) (hc : (crd m.acc x).isSome = true) (h0 : held m.own x = 0) :
    Calls Tryd.prog 21 #[.pointer (some ⟨p, 0, none⟩), .int .i64 x] w fun e w' => ∃ k, e = .returned (.tuple #[.pointer (some ⟨k, 0, none⟩), .nilIface]) ∧ w.heap.size ≤ k ∧ Below w.heap.size w w' ∧ CS w' p k L [] m [] ⟨x, 0, [], 0, 0⟩ := by
  have ha := accs_c x h
  rw [hc] at ha
  have hh := fun W (hb : Below w.heap.size w W) => held_c x hx W (h.below hb)
  rw [h0] at hh
  have hfin : ∀ W, Below w.heap.size w W → w.heap.size ≤ W.heap.size ∧ Below w.heap.size w (W.alloc (.cells #[.pointer (some ⟨p, 0, none⟩), .int .i64 x, .slice none 0 0, .int .i64 0, .int .i64 0, .int .i64 0, .int .i64 0] 110 (0, 0))) ∧
      CS (W.alloc (.cells #[.pointer (some ⟨p, 0, none⟩), .int .i64 x, .slice none 0 0, .int .i64 0, .int .i64 0, .int .i64 0, .int .i64 0] 110 (0, 0))) p W.heap.size L [] m [] ⟨x, 0, [], 0, 0⟩ := fun W hb => by
    have hb2 := hb.alloc hb.size (.cells #[.pointer (some ⟨p, 0, none⟩), .int .i64 x, .slice none 0 0, .int .i64 0, .int .i64 0, .int .i64 0, .int .i64 0] 110 (0, 0))
    have s1 := h.ok.s1
    refine ⟨hb.size, hb2, ⟨h.below hb2, ⟨⟨_, heap_alloc_new W _, SlO.nil _ _⟩, by simp⟩, fun y hy e => ?_, ⟨hc, by rw [h0]; rfl, by simp, by simp, by simp only; omega, by simp [need], fun _ => rfl, rfl, fun i hi => by simp at hi⟩⟩⟩
    simp only [List.mem_singleton] at hy
    subst hy
    have := h.lts _ e
    have := hb.size
    omega
  have HA := Lib.hid ha
  have HH := Lib.hid hh
  have HF := Lib.hid hfin
  clear ha hh hfin h hx hc h0
  go_enter Tryd.func21, Tryd.ntmps21
  go_wp2_with fail
  with_reducible refine HA.out.mono ?_
  rintro e w2 ⟨a, n, cap, rfl, hb2, hct⟩
  have HC := Lib.hid hct
  have HB := Lib.hid hb2
  clear hct hb2
  go_wp2_with fail
  with_reducible refine HC.out.mono ?_
  rintro e w3 ⟨rfl, rfl⟩
  go_wp2_with fail
  with_reducible refine (HH.out _ HB.out).mono ?_
  rintro e w3 ⟨rfl, rfl⟩
  have H3 := Lib.hid (HF.out _ HB.out)
  go_wp2
  go_ret2
  exact ⟨_, rfl, H3.out⟩
end Ch
end Go.Proofs.YtpjimmdpcpcmoaaDoor
