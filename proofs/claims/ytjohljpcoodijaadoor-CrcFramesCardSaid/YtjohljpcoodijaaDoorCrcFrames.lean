/- dofferlaw03.CrcFrames returns true. Conditions: the table and the sentinels read as laid. -/
import Derived.Test.YtjohljpcoodijaaDoorCrcOp
namespace Go.Proofs.YtjohljpcoodijaaDoor
open Go Go.RowKit Kt
namespace Crc

/-- 'string(b)' in every world that keeps what was there. -/
theorem str_keep {w : World} {a : Option Addr} {l : List UInt8} {n : Nat} (hn : l.length = n) (hr : Rd w a (u8s l)) (c : Nat) (W : World) (hb : Below w.heap.size w W) :
    (convert 24 9 (.slice a n c)).run Tryd.prog W = .ok (.string (Str l)) W := by
  subst hn
  exact str_run (P := Tryd.prog) (dst := 9) Num.elU8.ht Tryd.underlying5 Tryd.underlying9 (hr.keep hb) c 0

set_option maxHeartbeats 2000000 in
set_option maxRecDepth 100000 in
theorem frames_c (A : Nat → Addr) (a : Option Addr) (cap : Nat) (l : List UInt8) (w : World) (hl : l.length ≤ 9223372036854775807) (hcap : l.length ≤ cap) (hno : a = none → cap = 0) (hr : Rd w a (u8s l)) (ht : Tb w) (hs : Sent 152 w A Er.egs) :
    Calls Tryd.prog 11 #[.slice a l.length cap] w fun e w' => e = .returned (.bool true) ∧ Below w.heap.size w w' := by
  by_cases h2k : l.length ≤ 2000
  · have hd : decide (2000 < (l.length : Int)) = false := by simp; omega
    go_enter Tryd.func11, Tryd.ntmps11
    go_wp2_with (go_at_call 15; refine (alive_c _ ht).mono ?_; rintro e w1 ⟨rfl, hb1⟩)
    refine (framed_c a cap l w1 (by omega) hno (hr.keep hb1) (ht.keep hb1)).mono ?_
    generalize hfl : l ++ le4 (more 0 l) = fl
    have hfn : fl.length = l.length + 4 := by rw [← hfl, List.length_append, le4_length]
    have Hfl := Lib.hid hfl
    have Hfn := Lib.hid hfn
    clear hfl hfn
    rintro e w2 ⟨v, rfl, own2, hb2⟩
    obtain ⟨a2, c2, rfl, k1, k2, k3, k4⟩ := rd_own own2
    have B2 := hb1.trans (hb2.mono hb1.size)
    go_wp2
    -- the region
    have bA := ((Below.refl w2.heap.size w2).alloc (Nat.le_refl _) (.cells #[] 5)).drew
    have b0 := (Below.refl w2.heap.size w2).drew
    have ownA : (w2.alloc (.cells #[] 5)).drew.ownsRow w2.heap.size 5 1 (.slice (some ⟨w2.heap.size, 0, none⟩) 0 0) 0 [] := World.ownsRow_made w2 _ 0 (Nat.le_refl _) (by decide) rfl
    have hr2 := hr.keep B2
    obtain ⟨v3, w3, hrun3, own3, gr3, _⟩ := Num.elU8.append w2.heap.size (ty := 24) ownA l.length cap (by simp [u8s]) (hr2.keep bA) hno (oneCell_u8s _) (by unfold maxLen; omega) (by omega) bA.size
    have b3 := bA.trans (below_grown ownA gr3 (Nat.le_refl _) bA.size)
    have hcv := str_keep rfl k3 c2
    rw [Nat.zero_add, List.nil_append] at own3
    have hr3 := hr2.keep b3
    go_cut [25] (fun s W => s = .bool false ∧ Below w2.heap.size w2 W)
    case first =>
      go_region_law (first | ((with_reducible apply step_append_run hrun3); rfl; rfl; rfl; rfl; rfl) | ((with_reducible apply step_append_run hrun5); rfl; rfl; rfl; rfl; rfl) | (((with_reducible apply step_call (ref_c 0 _ rfl a cap l _ (by omega) hr3) Tryd.func18 (by kernel_rfl) (by kernel_rfl)); rfl; rfl; rfl); rintro e w' ⟨rfl, rfl⟩; refine ⟨_, rfl, ?_⟩) | (((with_reducible apply step_call (four_c (more 0 l) _) Tryd.func61 (by kernel_rfl) (by kernel_rfl)); rfl; rfl; rfl); rintro e w4 ⟨v4, rfl, own4, hb4⟩; refine ⟨_, rfl, ?_⟩; obtain ⟨a4, c4, rfl, q1, q2, q3, q4⟩ := rd_own own4; have b4 := b3.trans (hb4.mono b3.size); obtain ⟨v5, w5, hrun5, own5, gr5, _⟩ := Num.elU8.append w2.heap.size (ty := 24) (own_keep own3 hb4) 4 c4 rfl q3 (fun h => by subst h; exact (own_none own4).1) (oneCell_u8s _) (by unfold maxLen; omega) (by omega) b4.size; have b5 := b4.trans (below_grown (own_keep own3 hb4) gr5 (Nat.le_refl _) b4.size); obtain ⟨a5, c5, rfl, e1, e2, e3, e4⟩ := rd_own own5; rw [← u8s_append, Hfl.out] at e3; have hcv5 := str_keep (n := l.length + 4) Hfn.out e3 c5 w5 (Below.refl _ _)))
      all_goals
        go_wp2
        go_meet
        case rel => exact ⟨by simp, b5⟩
    case rest =>
      obtain ⟨rfl, hbc⟩ := hcut
      have Bc := B2.trans (hbc.mono B2.size)
      obtain ⟨g2, rfl⟩ : ∃ g2, a2 = some ⟨g2, 0, none⟩ := by
        cases a2 with
        | none =>
          have := k3.isNil8
          have h4 := Hfn.out
          rw [this] at h4
          simp at h4
        | some p =>
          obtain ⟨_, h1, h2⟩ := k4 p rfl
          obtain ⟨pb, po, ps⟩ := p
          simp only at h1 h2
          subst h1 h2
          exact ⟨pb, rfl⟩
      have k3c := k3.keep hbc
      rw [← Hfl.out] at k3c
      go_wp2_with fail
      refine (opened_c A g2 0 l.length fl.length c2 Hfn.out l (le4 (more 0 l)) rfl (le4_length _) wc (by omega) (by have := Hfn.out; omega) k3c (ht.keep Bc) ((hs.keep Bc).sub (by decide))).mono ?_
      rintro e w6 ⟨hb6, h61, _⟩
      obtain ⟨vx, rfl, own6⟩ := h61 rfl
      obtain ⟨ax, cx, rfl, x1, x2, x3, x4⟩ := rd_own own6
      have B6 := Bc.trans (hb6.mono Bc.size)
      have r6 := hr.keep B6
      have cv1 := str_keep (n := l.length) rfl x3 cx w6 (Below.refl _ _)
      have cv2 := str_keep (n := l.length) rfl r6 cap w6 (Below.refl _ _)
      clear h61 k3c k3 k4 hcv hr2 hrun3 own3 gr3 ownA own2
      go_wp2_with fail
      by_cases h4 : l.length < 4
      · refine (opened_short A a l.length cap w6 h4 ((hs.keep B6).sub (by decide))).mono ?_
        rintro e w7 ⟨rfl, hb7⟩
        have B7 := B6.trans (hb7.mono B6.size)
        have hd4 : decide ((l.length : Int) < 4) = true := by simp; omega
        go_wp2_with (go_at_call 34; (with_reducible refine (Er.num_at A 5 2 1 (by omega) rfl rfl _ (hs.keep B7)).mono ?_); rintro e w8 ⟨rfl, hb8⟩)
        go_ret
        exact ⟨rfl, B7.trans (hb8.mono B7.size)⟩
      · obtain ⟨b, off, rfl⟩ : ∃ b off, a = some ⟨b, off, none⟩ := by
          obtain ⟨b, off, h, _⟩ := r6.u8 0 (by omega)
          exact ⟨b, off, h⟩
        obtain ⟨n, hn⟩ : ∃ n, l.length = n + 4 := ⟨l.length - 4, by omega⟩
        have hps : l = l.take n ++ l.drop n := (List.take_append_drop n l).symm
        have hp : (l.take n).length = n := by simp; omega
        have hsf : (l.drop n).length = 4 := by simp; omega
        have rps := r6
        rw [hps] at rps
        have hrp : Rd w6 (some ⟨b, off, none⟩) (u8s (l.take n)) := by have := rps.take n; rw [u8s_append, List.take_left' (by rw [u8s_length, hp])] at this; exact this
        have hrs : Rd w6 (some ⟨b, off + n, none⟩) (u8s (l.drop n)) := by have := rps.drop n; rw [u8s_append, List.drop_left' (by rw [u8s_length, hp])] at this; exact this
        refine (opened_c A b off n l.length cap hn (l.take n) (l.drop n) hp hsf w6 (by omega) (by omega) rps (ht.keep B6) ((hs.keep B6).sub (by decide))).mono ?_
        generalize l.take n = pre at *
        generalize l.drop n = suf at *
        rintro e w7 ⟨hb7, h71, h72⟩
        have B7 := B6.trans (hb7.mono B6.size)
        have hd4 : decide ((l.length : Int) < 4) = false := by simp; omega
        have Hn := Lib.hid hn
        have Hps := Lib.hid hps
        clear hps rps r6 cv1 cv2
        have p7 := hrp.keep hb7
        have s7 := hrs.keep hb7
        have cvs := str_keep hsf s7 (cap - n)
        by_cases heq : suf = le4 (more 0 pre)
        · obtain ⟨vy, rfl, own7⟩ := h71 heq
          obtain ⟨ay, cy, rfl, y1, y2, y3, y4⟩ := rd_own own7
          rw [hn]
          have b7 := (Below.refl w7.heap.size w7).drew
          have hcn : ¬ cap = n := by omega
          have hle : (n : Int) ≤ (n : Int) + 4 := by omega
          have hnc : n ≤ cap := by omega
          go_wp2_with fail
          go_cut [69] (fun s W => s = .bool false ∧ Below w7.heap.size w7 W)
          case first =>
            go_region_law (first | (((with_reducible apply step_call (four_c (more 0 pre) _) Tryd.func61 (by kernel_rfl) (by kernel_rfl)); rfl; rfl; rfl); rintro e w8 ⟨v8, rfl, own8, hb8⟩; refine ⟨_, rfl, ?_⟩; obtain ⟨a8, c8, rfl, q1, q2, q3, q4⟩ := rd_own own8; have b8 := b7.trans (hb8.mono b7.size); have cv8 := str_keep (n := 4) (le4_length _) q3 c8 w8 (Below.refl _ _)) | (((with_reducible apply step_call (ref_n 0 _ rfl (some ⟨b, off, none⟩) n cap pre hp _ (by omega) (p7.keep b7)) Tryd.func18 (by kernel_rfl) (by kernel_rfl)); rfl; rfl; rfl); rintro e w' ⟨rfl, rfl⟩; refine ⟨_, rfl, ?_⟩))
            all_goals
              go_wp2
              go_meet
              case rel => exact ⟨rfl, b8⟩
          case rest =>
            obtain ⟨rfl, hbc8⟩ := hcut
            have B8 := B7.trans (hbc8.mono B7.size)
            have c1 := fun nq => str_keep hp (y3.keep hbc8) cy (wc.drewN nq) (below_drewN (Below.refl _ _) nq)
            have c2 := fun nq => str_keep hp (p7.keep hbc8) cap (wc.drewN nq) (below_drewN (Below.refl _ _) nq)
            clear h71 h72 cvs p7 s7 y3 y4 own7
            go_wp2
            go_quiet (fail)
            go_wp2
            go_ret
            exact ⟨by simp, below_drewN B8 _⟩
        · have he := h72 heq
          subst he
          rw [hn]
          have b7 := (Below.refl w7.heap.size w7).drew
          have hcn : ¬ cap = n := by omega
          have hle : (n : Int) ≤ (n : Int) + 4 := by omega
          have hnc : n ≤ cap := by omega
          go_wp2_with fail
          go_cut [69] (fun s W => s = .bool true ∧ Below w7.heap.size w7 W)
          case first =>
            go_region_law (first | (((with_reducible apply step_call (four_c (more 0 pre) _) Tryd.func61 (by kernel_rfl) (by kernel_rfl)); rfl; rfl; rfl); rintro e w8 ⟨v8, rfl, own8, hb8⟩; refine ⟨_, rfl, ?_⟩; obtain ⟨a8, c8, rfl, q1, q2, q3, q4⟩ := rd_own own8; have b8 := b7.trans (hb8.mono b7.size); have cv8 := str_keep (n := 4) (le4_length _) q3 c8 w8 (Below.refl _ _)) | (((with_reducible apply step_call (ref_n 0 _ rfl (some ⟨b, off, none⟩) n cap pre hp _ (by omega) (p7.keep b7)) Tryd.func18 (by kernel_rfl) (by kernel_rfl)); rfl; rfl; rfl); rintro e w' ⟨rfl, rfl⟩; refine ⟨_, rfl, ?_⟩))
            all_goals
              go_wp2
              go_meet
              case rel => exact ⟨by rw [Str_beq, beq_eq_false_iff_ne.2 heq]; rfl, b8⟩
          case rest =>
            obtain ⟨rfl, hbc8⟩ := hcut
            have B8 := B7.trans (hbc8.mono B7.size)
            clear h71 h72 cvs p7 s7
            go_wp2_with (go_at_call 34; (with_reducible refine (Er.num_at A 13 10 9 (by omega) rfl rfl _ (hs.keep B8)).mono ?_); rintro e w9 ⟨rfl, hb9⟩)
            go_ret
            exact ⟨rfl, B8.trans (hb9.mono B8.size)⟩
  · have hd : decide (2000 < (l.length : Int)) = true := by simp; omega
    go_enter Tryd.func11, Tryd.ntmps11
    go_wp2_with (go_at_call 15; refine (alive_c _ ht).mono ?_; rintro e w1 ⟨rfl, hb1⟩)
    go_ret
    exact ⟨rfl, hb1⟩
end Crc
end Go.Proofs.YtjohljpcoodijaaDoor
