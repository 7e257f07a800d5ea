/- dofferlaw02.MarksPlay returns true. Condition: the table of TrailingZeros64 reads as laid. -/
import Derived.Test.YtfkjijjmphbglaaDoorMarksPa
import Derived.Deep.RegionHeld3
import Derived.Deep.CutBlock
namespace Go.Proofs.YtfkjijjmphbglaaDoor
open Go Go.RowKit Kt
namespace Mk
def c3 (z : Int × Int × Bool) : List Value := [.int .i64 z.1, .int .i64 z.2.1, .bool z.2.2]
theorem mod200 (a : Int) : ∃ n : Nat, n < 200 ∧ (IntKind.u64.wrap a).tmod 200 = (n : Int) := by
  rw [IntKind.wrap_u64, tmod_of_emod]
  exact ⟨(a % 18446744073709551616 % 200).toNat, by omega, by omega⟩
theorem elB : El Tryd.prog 67 4 (.bool false) 1 1 := ⟨Tryd.underlying67, info_parts (by kernel_rfl), rfl, by decide⟩
theorem mk_bool (n : Nat) (hn : n < 200) (W : World) : (Instr.makeSlice 67 (.int .i64 (n : Int)) (.int .i64 (n : Int))).run Tryd.prog W = .ok (.slice (some ⟨W.heap.size, 0, none⟩) n n) (W.alloc (.cells ((List.replicate n false).map Value.bool).toArray 4)) := by
  obtain ⟨i, hi, hz, hs, hb⟩ := elB.info
  have h := run_make (P := Tryd.prog) W 67 4 i (.bool false) elB.ht hi hz .i64 .i64 n n (by omega) (Int.le_refl _) (by rw [hb]; omega) (by omega)
  rw [hs] at h
  simp only [Int.toNat_natCast, Nat.mul_one] at h
  have e : madeCells (Value.bool false).cells n = ((List.replicate n false).map Value.bool).toArray := by
    apply Array.toList_inj.1
    have e2 : ((Value.bool false).cells) = #[.bool false] := rfl
    rw [e2, toList_madeCells_one]
    simp
  rw [e] at h
  exact h
theorem alloc4 (w : World) (A B C D : Obj) : ((((w.alloc A).alloc B).alloc C).alloc D).drew.heap[w.heap.size]? = some A ∧ ((((w.alloc A).alloc B).alloc C).alloc D).drew.heap[w.heap.size + 1]? = some B ∧ ((((w.alloc A).alloc B).alloc C).alloc D).drew.heap[w.heap.size + 1 + 1]? = some C ∧ ((((w.alloc A).alloc B).alloc C).alloc D).drew.heap[w.heap.size + 1 + 1 + 1]? = some D := by
  have h0 : ∀ W : World, W.drew.heap = W.heap := fun _ => rfl
  rw [h0]
  have a0 := heap_alloc_new w A
  have b0 := heap_alloc_new (w.alloc A) B
  have c0 := heap_alloc_new ((w.alloc A).alloc B) C
  have d0 := heap_alloc_new (((w.alloc A).alloc B).alloc C) D
  simp only [World.size_alloc] at b0 c0 d0
  exact ⟨block_alloc (block_alloc (block_alloc a0)), block_alloc (block_alloc b0), block_alloc c0, d0⟩
theorem below4 (w : World) (A B C D : Obj) : Below w.heap.size w ((((w.alloc A).alloc B).alloc C).alloc D).drew := by
  have h1 := (Below.refl w.heap.size w).alloc (Nat.le_refl _) A
  have h2 := h1.alloc h1.size B
  have h3 := h2.alloc h2.size C
  exact (h3.alloc h3.size D).drew
theorem mkPl {w w3 W : World} {px bx py b' vz vg uz ug na nb : Nat} {C1 C2 : Array Value} (hP : MI w3 px bx (List.replicate na false) ∧ MI w3 py b' (List.replicate nb false) ∧ [px, bx, py, b'].Nodup ∧ ∀ k ∈ [px, bx, py, b'], w.heap.size ≤ k)
    (hB : Below w.heap.size w w3) (e1 : (List.map Value.bool (List.replicate na false)).toArray = C1) (e2 : (List.map Value.bool (List.replicate nb false)).toArray = C2) (la : na < 200) (lb : nb < 200) (hW : Below w3.heap.size w3 W)
    (h1 : W.heap[vz]? = some (.cells #[.slice (some ⟨vg, 0, none⟩) na na] 69 (0, 0))) (h2 : W.heap[vg]? = some (.cells C1 4 (0, 0)))
    (h3 : W.heap[uz]? = some (.cells #[.slice (some ⟨ug, 0, none⟩) nb nb] 69 (0, 0))) (h4 : W.heap[ug]? = some (.cells C2 4 (0, 0)))
    (hn : [vz, vg, uz, ug].Nodup) (hl : ∀ k ∈ [vz, vg, uz, ug], w3.heap.size ≤ k) : PlM w W px bx py b' vz vg uz ug (List.replicate na false) (List.replicate nb false) (List.replicate na false) (List.replicate nb false) := by
  obtain ⟨p1, p2, p3, p4⟩ := hP
  subst e1 e2
  have hlt : ∀ k ∈ [px, bx, py, b'], k < w3.heap.size := by
    have := p1.plt; have := p1.blt; have := p2.plt; have := p2.blt
    intro k hk; simp at hk; omega
  have hne1 : vg ≠ vz := by rintro rfl; simp at hn
  have hne2 : ug ≠ uz := by rintro rfl; simp at hn
  refine ⟨p1.below hW, p2.below hW, ⟨⟨na, by rw [List.length_replicate]; exact h1⟩, h2, hne1, by rw [List.length_replicate]; omega⟩, ⟨⟨nb, by rw [List.length_replicate]; exact h3⟩, h4, hne2, by rw [List.length_replicate]; omega⟩, hB.trans (hW.mono hB.size), ?_, ?_⟩
  · show ([px, bx, py, b'] ++ [vz, vg, uz, ug]).Nodup
    rw [List.nodup_append]
    refine ⟨p3, hn, fun a ha b hb => ?_⟩
    have := hlt a ha
    have := hl b hb
    omega
  · intro k hk
    rcases List.mem_append.1 (show k ∈ [px, bx, py, b'] ++ [vz, vg, uz, ug] from hk) with h | h
    · exact p4 k h
    · have := hl k h
      have := hB.size
      omega
theorem sel_same {α : Type} (b : Bool) (x : α) : sel b x x = x := by cases b <;> rfl
theorem sel_l {α : Type} (b : Bool) (f g x y : α) (h : b = b) : sel b (sel b f x) (sel b y g) = sel b f g := by cases b <;> rfl
/-- At a round's start. -/
def MpR (w : World) (vz uz py n : Nat) (x i : Value) (W : World) : Prop := ∃ (k px bx b' vg ug : Nat) (xs ys : List Bool), k ≤ n ∧ i = .int .i64 (k : Int) ∧ x = .pointer (some ⟨px, 0, none⟩) ∧ PlM w W px bx py b' vz vg uz ug xs ys xs ys
/-- Behind an act. -/
def MpM (w : World) (y vz uz py : Nat) (c : Array Value) (x : Value) (W : World) : Prop := ∃ (px bx b' vg ug : Nat) (xs ys : List Bool), x = .pointer (some ⟨px, 0, none⟩) ∧ Pa w W y c px bx py b' vz vg uz ug xs ys xs ys
/-- The model's numbers are put in. -/
def MoR (w : World) (y vz uz px bx py b' vg ug N : Nat) (c : Array Value) (wh : Bool) (xs ys : List Bool) (L : List Nat) (a : Option Addr) (fr i : Value) (W : World) : Prop := ∃ j : Nat, j ≤ N ∧ i = .int .i64 (j : Int) ∧ fr = .bool (orB (sel wh xs ys) (L.take j)).2 ∧ Rd W a (i64s (ints L)) ∧
  Pa w W y c px bx py b' vz vg uz ug xs ys (sel wh (orB xs (L.take j)).1 xs) (sel wh ys (orB ys (L.take j)).1)
theorem sel_or (wh : Bool) (xs ys : List Bool) (l : List Nat) : sel wh (sel wh (orB xs l).1 xs) (sel wh ys (orB ys l).1) = (orB (sel wh xs ys) l).1 := by cases wh <;> rfl
theorem sel_pu (wh : Bool) (xs ys : List Bool) (l : List Nat) (i : Nat) : sel wh (puB (sel wh (orB xs l).1 xs) i) (sel wh (orB xs l).1 xs) = sel wh (orB xs (l ++ [i])).1 xs ∧ sel wh (sel wh ys (orB ys l).1) (puB (sel wh ys (orB ys l).1) i) = sel wh ys (orB ys (l ++ [i])).1 := by
  cases wh
  · exact ⟨by simp only [sel, Bool.false_eq_true, if_false]; rw [orB_snoc]; rfl, rfl⟩
  · exact ⟨rfl, by simp only [sel, if_true]; rw [orB_snoc]; rfl⟩
/-- Are there numbers in both? -/
def MtR (xs ys : List Bool) (N : Nat) (w5 : World) (me i : Value) (W : World) : Prop := ∃ j : Nat, j ≤ N ∧ i = .int .i64 (j : Int) ∧ me = .bool (((tru xs).take j).any fun q => ys.getD q false) ∧ w5 = W
theorem any_snoc (l : List Nat) (f : Nat → Bool) (i : Nat) : (l ++ [i]).any f = (l.any f || f i) := by simp
set_option maxHeartbeats 4000000 in
set_option maxRecDepth 100000 in
theorem plays_small (a0 b0 : Int) (a : Option Addr) (cap n : Nat) (l : List (Int × Int × Bool)) (w : World) (hn : l.length = n) (hl : n ≤ 60) (hwf : ∀ z ∈ l, (Lit.int .i64 z.2.1).wf = true) (hr : Rd w a (l.flatMap c3)) (hT : Bt.Tab w) :
    Calls Tryd.prog 7 #[.int .i64 a0, .int .i64 b0, .slice a n cap] w fun e w' => e = .returned (.bool true) ∧ Below w.heap.size w w' := by
  have hd : decide (60 < (n : Int)) = false := by simp; omega
  obtain ⟨na, hna, ea⟩ := mod200 a0
  obtain ⟨nb, hnb, eb⟩ := mod200 b0
  have HA := Lib.hid (alive_c w hT)
  go_enter Tryd.func7, Tryd.ntmps7
  go_wp2_with fail
  refine HA.out.mono ?_
  rintro e w1 ⟨rfl, hb1⟩
  go_wp2_with fail
  refine (new_m na (by omega) w1).mono ?_
  rintro e w2 ⟨px, bx, rfl, p1, p2, I2, hb2⟩
  go_wp2_with fail
  refine (new_m nb (by omega) w2).mono ?_
  rintro e w3 ⟨py, b', rfl, p3, p4, I3, hb3⟩
  have HN := Lib.hid hn
  have HR := Lib.hid hr
  have HT := Lib.hid hT
  have HW := Lib.hid hwf
  have HB3 := Lib.hid ((hb1.trans (hb2.mono hb1.size)).trans (hb3.mono (Nat.le_trans hb1.size hb2.size)))
  have hP : MI w3 px bx (List.replicate na false) ∧ MI w3 py b' (List.replicate nb false) ∧ [px, bx, py, b'].Nodup ∧ ∀ k ∈ [px, bx, py, b'], w.heap.size ≤ k := by
    have q1 := I2.plt; have q2 := I2.blt; have q3 := I2.ne; have q4 := I3.ne; have q5 := hb1.size; have q6 := hb2.size
    refine ⟨I2.below hb3, I3, ?_, ?_⟩
    · simp; omega
    · intro k hk; simp at hk; omega
  have HP := Lib.hid hP
  have hm1 := mk_bool na hna
  have hm2 := mk_bool nb hnb
  clear hn hr hT hwf hb1 hb2 hb3 p1 p2 p3 p4 I2 I3 hP ea eb
  obtain ⟨C1, e1⟩ : ∃ C1, (List.map Value.bool (List.replicate na false)).toArray = C1 := ⟨_, rfl⟩
  obtain ⟨C2, e2⟩ : ∃ C2, (List.map Value.bool (List.replicate nb false)).toArray = C2 := ⟨_, rfl⟩
  rw [e1] at hm1
  rw [e2] at hm2
  have E1 := Lib.hid e1
  have E2 := Lib.hid e2
  clear e1 e2
  go_upto_region 10 with (fail)
  go_cut [11, 12] (fun v u W => ∃ vz vg uz ug, v = .pointer (some ⟨vz, 0, none⟩) ∧ u = .pointer (some ⟨uz, 0, none⟩) ∧ PlM w W px bx py b' vz vg uz ug (List.replicate na false) (List.replicate nb false) (List.replicate na false) (List.replicate nb false))
  case first =>
    go_region
    all_goals
      go_wp2
      go_meet
      case rel => first
        | exact ⟨_, w3.heap.size, _, w3.heap.size + 1 + 1, rfl, rfl, mkPl HP.out HB3.out E1.out E2.out hna hnb (below4 _ _ _ _ _) (alloc4 _ _ _ _ _).2.1 (alloc4 _ _ _ _ _).1 (alloc4 _ _ _ _ _).2.2.2 (alloc4 _ _ _ _ _).2.2.1 (by simp <;> omega) (by intro k hk; simp at hk; omega)⟩
        | exact ⟨_, w3.heap.size, _, w3.heap.size + 1, rfl, rfl, mkPl HP.out HB3.out E1.out E2.out hna hnb (below4 _ _ _ _ _) (alloc4 _ _ _ _ _).2.2.1 (alloc4 _ _ _ _ _).1 (alloc4 _ _ _ _ _).2.2.2 (alloc4 _ _ _ _ _).2.1 (by simp <;> omega) (by intro k hk; simp at hk; omega)⟩
        | exact ⟨_, w3.heap.size, _, w3.heap.size + 1, rfl, rfl, mkPl HP.out HB3.out E1.out E2.out hna hnb (below4 _ _ _ _ _) (alloc4 _ _ _ _ _).2.2.2 (alloc4 _ _ _ _ _).1 (alloc4 _ _ _ _ _).2.2.1 (alloc4 _ _ _ _ _).2.1 (by simp <;> omega) (by intro k hk; simp at hk; omega)⟩
        | exact ⟨_, w3.heap.size + 1, _, w3.heap.size, rfl, rfl, mkPl HP.out HB3.out E1.out E2.out hna hnb (below4 _ _ _ _ _) (alloc4 _ _ _ _ _).2.2.1 (alloc4 _ _ _ _ _).2.1 (alloc4 _ _ _ _ _).2.2.2 (alloc4 _ _ _ _ _).1 (by simp <;> omega) (by intro k hk; simp at hk; omega)⟩
        | exact ⟨_, w3.heap.size + 1, _, w3.heap.size, rfl, rfl, mkPl HP.out HB3.out E1.out E2.out hna hnb (below4 _ _ _ _ _) (alloc4 _ _ _ _ _).2.2.2 (alloc4 _ _ _ _ _).2.1 (alloc4 _ _ _ _ _).2.2.1 (alloc4 _ _ _ _ _).1 (by simp <;> omega) (by intro k hk; simp at hk; omega)⟩
        | exact ⟨_, w3.heap.size + 1 + 1, _, w3.heap.size, rfl, rfl, mkPl HP.out HB3.out E1.out E2.out hna hnb (below4 _ _ _ _ _) (alloc4 _ _ _ _ _).2.2.2 (alloc4 _ _ _ _ _).2.2.1 (alloc4 _ _ _ _ _).2.1 (alloc4 _ _ _ _ _).1 (by simp <;> omega) (by intro k hk; simp at hk; omega)⟩
  case rest =>
    obtain ⟨vz, vg, uz, ug, rfl, rfl, hPl⟩ := hcut
    have HPl := Lib.hid hPl
    clear hPl HP HB3 E1 E2 hm1 hm2
    go_wp2_with fail
    go_loopw [7, 14, 15, 16, 17, 18, 19, 21, 22, 23, 25, 73, 123, 139] (fun x _ _ _ _ _ _ _ _ _ _ i _ _ W => MpR w vz uz py n x i W) (fun _ _ _ _ _ _ _ _ _ _ _ i _ _ _ => n - (intOf i).toNat)
    case atStart => exact ⟨0, _, _, _, _, _, _, _, Nat.zero_le _, rfl, rfl, HPl.out⟩
    case round =>
      clear HPl
      obtain ⟨k, px, bx, b', vg, ug, xs, ys, hk, rfl, rfl, hP⟩ := hrel
      by_cases hlt : k < n
      · obtain ⟨b, off, ha, hcs⟩ := (HR.out.keep hP.B).struct 3 (by intro z _; rfl) k (by rw [HN.out]; exact hlt) (by omega)
        have k0 := hcs 0 _ rfl (by omega)
        have k1 := hcs 1 _ rfl (by omega)
        have k2 := hcs 2 _ rfl (by omega)
        have hmw := HW.out _ (List.getElem_mem (by rw [HN.out]; exact hlt : k < l.length))
        clear hcs
        subst ha
        generalize l[k]'(by rw [HN.out]; exact hlt) = act at *
        obtain ⟨kd, m, wh⟩ := act
        simp only [Nat.add_zero] at k0 k1 k2 hmw
        rw [← Nat.add_assoc] at k1 k2
        have hP1 := hP.act #[.int .i64 kd, .int .i64 m, .bool wh]
        obtain ⟨y, hy⟩ : ∃ y, wr.heap.size = y := ⟨_, rfl⟩
        rw [hy] at hP1
        have HP1 := Lib.hid hP1
        have HMw := Lib.hid hmw
        have z0 := cell_block hP1.h 0
        have z1 := cell_block hP1.h 1
        have z2 := cell_block hP1.h 2
        simp at z0 z1 z2
        clear hP hP1 hmw
        go_upto_if 82 with (fail)
        go_cut [15, 16, 17, 18] (fun v1 v2 v3 v4 W => v1 = .pointer (some ⟨sel wh px py, 0, none⟩) ∧ v2 = .pointer (some ⟨sel wh py px, 0, none⟩) ∧ v3 = .pointer (some ⟨sel wh vz uz, 0, none⟩) ∧ v4 = .pointer (some ⟨sel wh uz vz, 0, none⟩) ∧ Pa w W y #[.int .i64 kd, .int .i64 m, .bool wh] px bx py b' vz vg uz ug xs ys xs ys)
        case first =>
          cases wh
          · go_wp2
            go_meet
            case rel => exact ⟨rfl, rfl, rfl, rfl, HP1.out⟩
          · go_wp2
            go_meet
            case rel => exact ⟨rfl, rfl, rfl, rfl, HP1.out⟩
        case rest =>
          obtain ⟨rfl, rfl, rfl, rfl, hP2⟩ := hcut
          have HP2 := Lib.hid hP2
          clear z0 z1 z2 k0 k1 k2 HP1
          have z0 := cell_block hP2.h 0
          have z1 := cell_block hP2.h 1
          simp at z0 z1
          clear hP2
          go_upto_block 2 with (fail)
          go_cut [7] (fun x W => MpM w y vz uz py #[.int .i64 kd, .int .i64 m, .bool wh] x W)
          case first =>
            have sk : ∀ (W : World) (px bx b' vg ug : Nat) (xs ys vs us : List Bool), Pa w W y #[.int .i64 kd, .int .i64 m, .bool wh] px bx py b' vz vg uz ug xs ys vs us → W.cell? ⟨y, 1, none⟩ = some (.int .i64 m) := fun W _ _ _ _ _ _ _ _ _ h => cell_block h.h 1
            have SK := Lib.hid sk
            clear sk
            by_cases h0 : kd = 0
            · subst h0
              obtain ⟨bb, hbb⟩ : ∃ bb, prB (sel wh xs ys) m = bb := ⟨_, rfl⟩
              have CA := Lib.hid (fun W (h : Pa w W y #[.int .i64 0, .int .i64 m, .bool wh] px bx py b' vz vg uz ug xs ys xs ys) => putA wh m HMw.out h)
              have CR := Lib.hid (fun W (h : Pa w W y #[.int .i64 0, .int .i64 m, .bool wh] px bx py b' vz vg uz ug (sel wh (puB xs m) xs) (sel wh ys (puB ys m)) xs ys) => putR wh m h)
              rw [hbb] at CA CR
              have y0 := SK.out _ _ _ _ _ _ _ _ _ _ HP2.out
              clear hbb
              go_wp2_with fail
              go_region_held3 (fun W => W.cell? ⟨y, 1, none⟩ = some (.int .i64 m))
                (first | exact y2 | exact y1 | exact y0)
                (first
                  | (go_at_call 35; (with_reducible refine (CA.out _ (HP2.out.below (Below.refl _ _).drew)).mono ?_); rintro e w5 ⟨rfl, hP5⟩
                     have y1 := SK.out _ _ _ _ _ _ _ _ _ _ hP5)
                  | (go_at_call 36; (with_reducible refine (CR.out _ hP5).mono ?_); rintro e w6 ⟨rfl, hP6, _⟩
                     have y2 := SK.out _ _ _ _ _ _ _ _ _ _ hP6))
              have HP6 := Lib.hid hP6
              clear hP5 hP6 y0 y1 y2 z0 z1
              go_wp2
              go_meet
              case rel => exact ⟨_, _, _, _, _, _, _, rfl, HP6.out⟩
            · by_cases h1 : kd = 1
              · subst h1
                obtain ⟨bb, hbb⟩ : ∃ bb, hasB (sel wh xs ys) m = bb := ⟨_, rfl⟩
                have CA := Lib.hid (fun W (h : Pa w W y #[.int .i64 1, .int .i64 m, .bool wh] px bx py b' vz vg uz ug xs ys xs ys) => outA wh m HMw.out h)
                have CR := Lib.hid (fun W (h : Pa w W y #[.int .i64 1, .int .i64 m, .bool wh] px bx py b' vz vg uz ug (sel wh (ouB xs m) xs) (sel wh ys (ouB ys m)) xs ys) => outR wh m h)
                rw [hbb] at CA CR
                have y0 := SK.out _ _ _ _ _ _ _ _ _ _ HP2.out
                clear hbb
                go_wp2_with fail
                go_region_held3 (fun W => W.cell? ⟨y, 1, none⟩ = some (.int .i64 m))
                  (first | exact y2 | exact y1 | exact y0)
                  (first
                    | (go_at_call 37; (with_reducible refine (CA.out _ (HP2.out.below (Below.refl _ _).drew)).mono ?_); rintro e w5 ⟨rfl, hP5⟩
                       have y1 := SK.out _ _ _ _ _ _ _ _ _ _ hP5)
                    | (go_at_call 38; (with_reducible refine (CR.out _ hP5).mono ?_); rintro e w6 ⟨rfl, hP6⟩
                       have y2 := SK.out _ _ _ _ _ _ _ _ _ _ hP6))
                have HP6 := Lib.hid hP6
                clear hP5 hP6 y0 y1 y2 z0 z1
                go_wp2
                go_meet
                case rel => exact ⟨_, _, _, _, _, _, _, rfl, HP6.out⟩
              · by_cases h2 : kd = 2
                · subst h2
                  obtain ⟨L, hL⟩ : ∃ L, tru (sel wh ys xs) = L := ⟨_, rfl⟩
                  obtain ⟨N, hN⟩ : ∃ N, L.length = N := ⟨_, rfl⟩
                  have hNb : N ≤ 65536 := by
                    rw [← hN, ← hL]
                    have h1 := HP2.out.p.x.len
                    have h2 := HP2.out.p.y.len
                    cases wh
                    · exact Nat.le_trans (tru_len _) h2
                    · exact Nat.le_trans (tru_len _) h1
                  have cl := listR (y := y) wh N (by rw [hL]; exact hN) HP2.out
                  rw [hL] at cl
                  have CL := Lib.hid cl
                  have HN2 := Lib.hid hN
                  have HL := Lib.hid hL
                  clear cl hN hL z0 z1
                  go_wp2_with fail
                  refine CL.out.mono ?_
                  rintro e w5 ⟨a, cc, rfl, hrd, hap, hb5⟩
                  have HP5 := Lib.hid (HP2.out.below hb5)
                  have HRd := Lib.hid hrd
                  have HAp := Lib.hid hap
                  clear hb5 hrd hap
                  go_wp2_with fail
                  go_loopw [19, 21, 123] (fun fr _ i W => MoR w y vz uz px bx py b' vg ug N #[.int .i64 2, .int .i64 m, .bool wh] wh xs ys L a fr i W) (fun _ _ i _ => N - (intOf i).toNat)
                  case atStart => exact ⟨0, Nat.zero_le _, rfl, rfl, HRd.out, by cases wh <;> exact HP5.out⟩
                  case round =>
                    clear HP5 HRd
                    obtain ⟨j, hj, rfl, rfl, hrd, hPj⟩ := hrel
                    by_cases hlt2 : j < N
                    · have hjl : j < L.length := by rw [HN2.out]; exact hlt2
                      have hji : j < (ints L).length := by rw [ints_len]; exact hjl
                      obtain ⟨bb, off, ha, hc⟩ := hrd.i64 j hji
                      have hval : (ints L)[j] = (L[j] : Int) := by simp [ints]
                      rw [hval] at hc
                      have hsn : L.take (j + 1) = L.take j ++ [L[j]] := (List.take_append_getElem hjl).symm
                      generalize L[j] = q at *
                      have hcp := putR wh (q : Int) hPj
                      rw [sel_or] at hcp
                      obtain ⟨v, hv⟩ : ∃ v, prB (orB (sel wh xs ys) (L.take j)).1 q = v := ⟨_, rfl⟩
                      rw [hv, (sel_pu wh xs ys _ q).1, (sel_pu wh xs ys _ q).2, ← hsn] at hcp
                      have horb : (orB (sel wh xs ys) (L.take (j + 1))).2 = (v || (orB (sel wh xs ys) (L.take j)).2) := by rw [hsn, orB_snoc, ← hv]; rfl
                      obtain ⟨fr, hfr⟩ : ∃ fr, (orB (sel wh xs ys) (L.take j)).2 = fr := ⟨_, rfl⟩
                      rw [hfr] at horb ⊢
                      have hrd2 : ∀ W', Mod [bx, b', vg, ug] wr W' → Rd W' a (i64s (ints L)) := fun W' hM => hrd.mod hM HAp.out
                      have HCp := Lib.hid hcp
                      have HOrb := Lib.hid horb
                      have HRd2 := Lib.hid hrd2
                      subst ha
                      clear hrd hPj hval hsn hcp hv horb hfr hrd2
                      cases v
                      · go_wp2_with (go_at_call 36; (with_reducible refine HCp.out.mono ?_); rintro e w6 ⟨rfl, hP6, hM6⟩
                                     have HP6 := Lib.hid hP6
                                     have HR6 := Lib.hid (HRd2.out _ hM6)
                                     clear hP6 hM6)
                        go_roundw
                        case rel => first | exact ⟨j + 1, hlt2, by go_num, by rw [HOrb.out]; rfl, HR6.out, HP6.out⟩ | ((repeat apply Exists.intro); refine ⟨?r, ?f⟩; (case f => (and_intros <;> rfl)); exact ⟨j + 1, hlt2, by go_num, by rw [HOrb.out]; rfl, HR6.out, HP6.out⟩)
                        case measure => simp [intOf]; omega
                      · go_wp2_with (go_at_call 36; (with_reducible refine HCp.out.mono ?_); rintro e w6 ⟨rfl, hP6, hM6⟩
                                     have HP6 := Lib.hid hP6
                                     have HR6 := Lib.hid (HRd2.out _ hM6)
                                     clear hP6 hM6)
                        go_roundw
                        case rel => first | exact ⟨j + 1, hlt2, by go_num, by rw [HOrb.out]; rfl, HR6.out, HP6.out⟩ | ((repeat apply Exists.intro); refine ⟨?r, ?f⟩; (case f => (and_intros <;> rfl)); exact ⟨j + 1, hlt2, by go_num, by rw [HOrb.out]; rfl, HR6.out, HP6.out⟩)
                        case measure => simp [intOf]; omega
                    · have hjN : j = N := by omega
                      subst hjN
                      rw [List.take_of_length_le (by rw [HN2.out]; exact Nat.le_refl _)] at hPj
                      rw [List.take_of_length_le (by rw [HN2.out]; exact Nat.le_refl _)]
                      have hor := orA wh HT.out hPj
                      rw [HL.out] at hor
                      have hfin : sel wh (orB xs (tru ys)).1 xs = sel wh (orB xs L).1 xs ∧ sel wh ys (orB ys (tru xs)).1 = sel wh ys (orB ys L).1 := by
                        have h := HL.out
                        cases wh
                        · exact ⟨by rw [← h]; rfl, rfl⟩
                        · exact ⟨rfl, by rw [← h]; rfl⟩
                      rw [hfin.1, hfin.2] at hor
                      obtain ⟨fr, hfr⟩ : ∃ fr, (orB (sel wh xs ys) L).2 = fr := ⟨_, rfl⟩
                      rw [hfr] at hor ⊢
                      have HOr := Lib.hid hor
                      clear hor hfin hfr hPj hrd
                      go_wp2_with fail
                      refine HOr.out.mono ?_
                      rintro e w6 ⟨rfl, hP6⟩
                      have HP6 := Lib.hid hP6
                      clear hP6
                      go_wp2
                      go_meet
                      case rel => exact ⟨_, _, _, _, _, _, _, rfl, HP6.out⟩
                · have n0 : (kd == 0) = false := by simp [h0]
                  have n1 : (kd == 1) = false := by simp [h1]
                  have n2 : (kd == 2) = false := by simp [h2]
                  clear h0 h1 h2 z0 z1
                  go_wp2_with fail
                  refine (copyA HP2.out).mono ?_
                  rintro e w5 ⟨p', g, rfl, hP5, hI5, hbx, hlx, hyx⟩
                  have HP5 := Lib.hid hP5
                  have HBx := Lib.hid hbx
                  have HLx := Lib.hid hlx
                  have HYx := Lib.hid hyx
                  have HI5 := Lib.hid hI5
                  clear hP5 hI5 hbx hlx hyx
                  go_wp2_with fail
                  refine (put_m 0 (by decide) _ HI5.out).mono ?_
                  rintro e w6 ⟨rfl, hI6, hM6⟩
                  have HP6 := Lib.hid (oldPa hM6 HP5.out HBx.out HLx.out HYx.out)
                  have HI6 := Lib.hid hI6
                  clear hI6 hM6
                  go_wp2_with fail
                  refine (out_m 1 (by decide) _ HI6.out).mono ?_
                  rintro e w7 ⟨rfl, hI7, hM7⟩
                  have HP7 := Lib.hid (oldPa hM7 HP6.out HBx.out HLx.out HYx.out)
                  clear hI7 hM7
                  go_wp2
                  go_meet
                  case rel => exact ⟨_, _, _, _, _, _, _, rfl, HP7.out⟩
          case rest =>
            obtain ⟨px, bx, b', vg, ug, xs, ys, rfl, hP3⟩ := hcut
            clear z0 z1 HP2
            obtain ⟨N, hN⟩ : ∃ N, (tru xs).length = N := ⟨_, rfl⟩
            have cl := list_r N hN wc hP3.p.v
            have hNb : N ≤ 65536 := by rw [← hN]; exact Nat.le_trans (tru_len _) hP3.p.x.len
            have HN2 := Lib.hid hN
            have HP3 := Lib.hid hP3
            have CL := Lib.hid cl
            clear hN hP3 cl
            go_wp2_with fail
            refine CL.out.mono ?_
            rintro e w5 ⟨a, cc, rfl, hown, hb5⟩
            have hP5 := HP3.out.below hb5
            have HP5 := Lib.hid hP5
            have HRd := Lib.hid (Rd.own hown)
            clear hown hP5 hb5
            go_wp2_with fail
            go_loopw [23, 25, 139] (fun me _ i W => MtR xs ys N w5 me i W) (fun _ _ i _ => N - (intOf i).toNat)
            case atStart => exact ⟨0, Nat.zero_le _, rfl, rfl, rfl⟩
            case round =>
              obtain ⟨j, hj, rfl, rfl, rfl⟩ := hrel
              by_cases hlt2 : j < N
              · have hjl : j < (tru xs).length := by rw [HN2.out]; exact hlt2
                have hji : j < (ints (tru xs)).length := by rw [ints_len]; exact hjl
                obtain ⟨bb, off, ha, hc⟩ := HRd.out.i64 j hji
                have hval : (ints (tru xs))[j] = ((tru xs)[j] : Int) := by simp [ints]
                rw [hval] at hc
                have hsn : ((tru xs).take (j + 1)).any (fun q => ys.getD q false) = (((tru xs).take j).any (fun q => ys.getD q false) || ys.getD (tru xs)[j] false) := by
                  rw [← List.take_append_getElem hjl, any_snoc]
                generalize (tru xs)[j] = q at *
                have hcp := has_r (q : Int) w5 HP5.out.p.u
                rw [hasB_nat] at hcp
                generalize ys.getD q false = v at *
                generalize ((tru xs).take j).any (fun q => ys.getD q false) = me at *
                have HCp := Lib.hid hcp
                have HSn := Lib.hid hsn
                subst ha
                clear hval hsn hcp
                cases me
                · go_wp2_with (go_at_call 42; (with_reducible refine HCp.out.mono ?_); rintro e w6 ⟨rfl, rfl⟩)
                  go_roundw
                  case rel => first | exact ⟨j + 1, hlt2, by go_num, by rw [HSn.out]; rfl, rfl⟩ | ((repeat apply Exists.intro); refine ⟨?r, ?f⟩; (case f => (and_intros <;> rfl)); exact ⟨j + 1, hlt2, by go_num, by rw [HSn.out]; rfl, rfl⟩)
                  case measure => simp [intOf]; omega
                · go_wp2_with (go_at_call 42; (with_reducible refine HCp.out.mono ?_); rintro e w6 ⟨rfl, rfl⟩)
                  go_roundw
                  case rel => first | exact ⟨j + 1, hlt2, by go_num, by rw [HSn.out]; rfl, rfl⟩ | ((repeat apply Exists.intro); refine ⟨?r, ?f⟩; (case f => (and_intros <;> rfl)); exact ⟨j + 1, hlt2, by go_num, by rw [HSn.out]; rfl, rfl⟩)
                  case measure => simp [intOf]; omega
              · have hjN : j = N := by omega
                subst hjN
                rw [List.take_of_length_le (by rw [HN2.out]; exact Nat.le_refl _)]
                have hS1 := samem_c m HMw.out w5 HP5.out.p.x HP5.out.p.v (HP5.out.p.tab HT.out)
                have hB5 := HP5.out.p.B
                have HS1 := Lib.hid hS1
                obtain ⟨me, hme⟩ : ∃ me, ((tru xs).any fun q => ys.getD q false) = me := ⟨_, rfl⟩
                rw [hme]
                obtain ⟨sa, hsa⟩ : ∃ sa, (tru xs == tru ys) = sa := ⟨_, rfl⟩
                obtain ⟨K, hK⟩ : ∃ K, (tru ys).length = K := ⟨_, rfl⟩
                have hsa2 : decide (ints (tru xs) = ints (tru ys)) = sa := by
                  rw [← hsa]
                  by_cases h : tru xs = tru ys
                  · rw [h]; simp
                  · have h2 : ¬ ints (tru xs) = ints (tru ys) := fun e => h (ints_inj e)
                    simp [h, h2]
                have HMe := Lib.hid hme
                have HSa := Lib.hid hsa
                have HSa2 := Lib.hid hsa2
                have HK := Lib.hid hK
                have z1 := cell_block HP5.out.h 1
                simp at z1
                clear hS1 hB5 hme hsa hsa2 hK
                go_wp2_with fail
                refine HS1.out.mono ?_
                rintro e w6 ⟨rfl, hb6⟩
                have HP6 := Lib.hid (HP5.out.below hb6)
                have z1 := cell_block HP6.out.h 1
                simp at z1
                clear hb6
                go_wp2_with fail
                refine (samem_c m HMw.out w6 HP6.out.p.y HP6.out.p.u (HP6.out.p.tab HT.out)).mono ?_
                rintro e w7 ⟨rfl, hb7⟩
                have HP7 := Lib.hid (HP6.out.below hb7)
                clear hb7 z1
                go_wp2_with fail
                have hmm := meets_m w7 HP7.out.p.x HP7.out.p.y
                rw [show meetB xs ys = me from HMe.out] at hmm
                refine hmm.mono ?_
                rintro e w8 ⟨rfl, n8, hb8⟩
                have HP8 := Lib.hid (HP7.out.below (below_drew hb8))
                clear hb8 hmm
                go_wp2_with fail
                have hsm := same_m w8 HP8.out.p.x HP8.out.p.y (HP8.out.p.tab HT.out)
                rw [HSa.out] at hsm
                refine hsm.mono ?_
                rintro e w9 ⟨rfl, hb9⟩
                have HP9 := Lib.hid (HP8.out.below hb9)
                clear hb9 hsm
                go_wp2_with fail
                refine (list_r _ HN2.out w9 HP9.out.p.v).mono ?_
                rintro e w10 ⟨a1, c1, rfl, ow1, hb10⟩
                have HP10 := Lib.hid (HP9.out.below hb10)
                have HR1 := Lib.hid (Rd.own ow1)
                clear hb10 ow1
                go_wp2_with fail
                refine (list_r _ HK.out w10 HP10.out.p.u).mono ?_
                rintro e w11 ⟨a2, c2, rfl, ow2, hb11⟩
                have HP11 := Lib.hid (HP10.out.below hb11)
                have HR2 := Lib.hid (Rd.own ow2)
                have HR1' := Lib.hid (HR1.out.keep hb11)
                clear hb11 ow2
                go_wp2_with fail
                have hsc := Sm.same_c a1 a2 c1 c2 j K (ints (tru xs)) (ints (tru ys)) w11 (by rw [ints_len]; exact HN2.out) (by rw [ints_len]; exact HK.out) (by omega) HR1'.out HR2.out
                rw [HSa2.out] at hsc
                refine hsc.mono ?_
                rintro e w12 ⟨rfl, n12, hb12⟩
                have HP12 := Lib.hid (HP11.out.below (below_drew hb12))
                clear hb12 hsc
                go_wp2
                all_goals
                  go_roundw
                  case rel => first | exact ⟨k + 1, _, _, _, _, _, _, _, hlt, by go_num, rfl, HP12.out.p⟩ | ((repeat apply Exists.intro); refine ⟨?r, ?f⟩; (case f => (and_intros <;> rfl)); exact ⟨k + 1, _, _, _, _, _, _, _, hlt, by go_num, rfl, HP12.out.p⟩)
                  case measure => simp [intOf]; omega
      · go_wp2
        go_ret
        exact ⟨rfl, hP.B⟩
set_option maxHeartbeats 1000000 in
set_option maxRecDepth 100000 in
theorem plays_c (a0 b0 : Int) (a : Option Addr) (cap n : Nat) (l : List (Int × Int × Bool)) (w : World) (hn : l.length = n) (h63 : n ≤ 9223372036854775807) (hwf : ∀ z ∈ l, (Lit.int .i64 z.2.1).wf = true) (hr : Rd w a (l.flatMap c3)) (hT : Bt.Tab w) :
    Calls Tryd.prog 7 #[.int .i64 a0, .int .i64 b0, .slice a n cap] w fun e w' => e = .returned (.bool true) ∧ Below w.heap.size w w' := by
  by_cases h60 : n ≤ 60
  · exact plays_small a0 b0 a cap n l w hn h60 hwf hr hT
  · have hd : decide (60 < (n : Int)) = true := by simp; omega
    have HA := Lib.hid (alive_c w hT)
    clear hn hwf hr hT h60
    go_enter Tryd.func7, Tryd.ntmps7
    go_wp2_with fail
    refine HA.out.mono ?_
    rintro e w1 ⟨rfl, hb1⟩
    go_wp2
    go_ret
    exact ⟨rfl, hb1⟩
end Mk
end Go.Proofs.YtfkjijjmphbglaaDoor
