/- dofferlaw03.alive and CrcSum return true. Condition: the table of steps reads as the program's text lays it. -/
import Derived.Test.YtjohljpcoodijaaDoorCrcWalk
import Derived.Test.YtjohljpcoodijaaDoorNum
namespace Go.Proofs.YtjohljpcoodijaaDoor
open Go Go.RowKit Kt
namespace Crc

def bsA : List UInt8 := [49, 50, 51, 52]
def bsB : List UInt8 := [53, 54, 55, 56, 57]
set_option maxHeartbeats 400000 in
set_option maxRecDepth 100000 in
theorem alive_c (w : World) (ht : Tb w) : Calls Tryd.prog 15 #[] w fun e w' => e = .returned (.bool true) ∧ Below w.heap.size w w' := by
  have kc := bytes_const (P := Tryd.prog) Tryd.underlying24 Tryd.underlying5
  have hv : (more 0 (bsA ++ bsB)).toNat = 3421780262 := by decide +kernel
  have Hv := Lib.hid hv
  clear hv
  go_enter Tryd.func15, Tryd.ntmps15
  go_wp2_with fail
  have r1 := ((Rd.new w #[.int .u8 49, .int .u8 50, .int .u8 51, .int .u8 52] 5 (4, 5) (u8s bsA) rfl).alloc (.cells #[.int .u8 53, .int .u8 54, .int .u8 55, .int .u8 56, .int .u8 57] 5 (5, 6))).alloc (.cells #[.slice (some ⟨w.heap.size, 0, none⟩) 4 4, .slice (some ⟨w.heap.size + 1, 0, none⟩) 5 5] 24)
  have r2 := (Rd.new (w.alloc (.cells #[.int .u8 49, .int .u8 50, .int .u8 51, .int .u8 52] 5 (4, 5))) #[.int .u8 53, .int .u8 54, .int .u8 55, .int .u8 56, .int .u8 57] 5 (5, 6) (u8s bsB) rfl).alloc (.cells #[.slice (some ⟨w.heap.size, 0, none⟩) 4 4, .slice (some ⟨w.heap.size + 1, 0, none⟩) 5 5] 24)
  have r3 := Rd.new ((w.alloc (.cells #[.int .u8 49, .int .u8 50, .int .u8 51, .int .u8 52] 5 (4, 5))).alloc (.cells #[.int .u8 53, .int .u8 54, .int .u8 55, .int .u8 56, .int .u8 57] 5 (5, 6))) #[.slice (some ⟨w.heap.size, 0, none⟩) 4 4, .slice (some ⟨w.heap.size + 1, 0, none⟩) 5 5] 24 (0, 0)
    ([(⟨some ⟨w.heap.size, 0, none⟩, 4, bsA⟩ : Row), ⟨some ⟨w.heap.size + 1, 0, none⟩, 5, bsB⟩].map Row.v) rfl
  have hbel := (((Below.refl w.heap.size w).alloc (Nat.le_refl _) (.cells #[.int .u8 49, .int .u8 50, .int .u8 51, .int .u8 52] 5 (4, 5))).alloc (by simp) (.cells #[.int .u8 53, .int .u8 54, .int .u8 55, .int .u8 56, .int .u8 57] 5 (5, 6))).alloc (by simp; omega) (.cells #[.slice (some ⟨w.heap.size, 0, none⟩) 4 4, .slice (some ⟨w.heap.size + 1, 0, none⟩) 5 5] 24)
  simp only [World.size_alloc] at r1 r2 r3
  refine (sum_c _ _ [⟨some ⟨w.heap.size, 0, none⟩, 4, bsA⟩, ⟨some ⟨w.heap.size + 1, 0, none⟩, 5, bsB⟩] _ (by simp) (by intro r hr; simp at hr; rcases hr with rfl | rfl <;> simp [bsA, bsB]) r3 (by intro r hr; simp at hr; rcases hr with rfl | rfl <;> assumption) (ht.keep hbel)).mono ?_
  rintro e w' ⟨rfl, rfl⟩
  have hv2 : (more 0 (flat [⟨some ⟨w.heap.size, 0, none⟩, 4, bsA⟩, ⟨some ⟨w.heap.size + 1, 0, none⟩, 5, bsB⟩])).toNat = 3421780262 := Hv.out
  generalize (more 0 (flat [⟨some ⟨w.heap.size, 0, none⟩, 4, bsA⟩, ⟨some ⟨w.heap.size + 1, 0, none⟩, 5, bsB⟩])).toNat = n at *
  subst hv2
  clear r1 r2 r3 kc
  go_wp2
  go_ret
  exact ⟨rfl, hbel⟩

set_option maxHeartbeats 1000000 in
set_option maxRecDepth 100000 in
theorem crcSum_c (a : Option Addr) (cap : Nat) (rs : List Row) (sum : Int) (w : World) (hl : rs.length ≤ 9223372036854775807) (hr : Rd w a (rs.map Row.v)) (hrs : ∀ r ∈ rs, r.ok w) (ht : Tb w) :
    Calls Tryd.prog 3 #[.slice a rs.length cap, .int .i64 sum] w fun e w' => e = .returned (.bool true) ∧ Below w.heap.size w w' := by
  by_cases h20 : rs.length ≤ 20
  · have hd : decide (20 < (rs.length : Int)) = false := by simp; omega
    go_enter Tryd.func3, Tryd.ntmps3
    go_wp2_with (go_at_call 15; refine (alive_c _ ht).mono ?_; rintro e w1 ⟨rfl, hb1⟩)
    have hbA := hb1.alloc hb1.size (.cells #[] 5)
    have own0 : (w1.alloc (.cells #[] 5)).ownsRow w.heap.size 5 1 (.slice (some ⟨w1.heap.size, 0, none⟩) 0 0) 0 [] := World.ownsRow_made w1 _ 0 hb1.size (by decide) rfl
    go_loopw [5, 7, 17] (fun v _p i wr => ∃ k : Nat, k ≤ rs.length ∧ i = .int .i64 k ∧ wr.ownsRow w.heap.size 5 1 v (flat (rs.take k)).length (u8s (flat (rs.take k))) ∧ Below w.heap.size w wr ∧ (∀ r ∈ rs.take k, r.l.length ≤ 1000)) (fun _ _ i _ => rs.length - (intOf i).toNat)
    case atStart => exact ⟨0, Nat.zero_le _, rfl, own0, hbA, by simp⟩
    case round =>
      obtain ⟨k, hk, rfl, own, hb, hle⟩ := hrel
      have hfl : (flat (rs.take k)).length ≤ 20000 := by
        have : ∀ ys : List Row, (∀ r ∈ ys, r.l.length ≤ 1000) → (flat ys).length ≤ 1000 * ys.length := by
          intro ys
          induction ys with
          | nil => intro _; simp [flat]
          | cons y ys ih =>
            intro h
            have h1 := h y (by simp)
            have h2 := ih (fun r hr => h r (by simp [hr]))
            simp only [flat, List.flatMap_cons, List.length_append, List.length_cons] at *
            omega
        have h2 := this _ hle
        have h3 : (rs.take k).length ≤ 20 := by simp; omega
        omega
      by_cases hlt : k < rs.length
      · obtain ⟨b, off, ha, hck⟩ := (hr.keep hb).map_at k hlt
        obtain ⟨q1, q2, q3, q4⟩ := (hrs _ (List.getElem_mem hlt)).keep hb
        have hs : flat (rs.take (k + 1)) = flat (rs.take k) ++ rs[k].l := by unfold flat; rw [List.take_succ_eq_append_getElem hlt, List.flatMap_append]; simp
        have hs2 : ∀ r ∈ rs.take (k + 1), r.l.length ≤ 1000 ∨ r = rs[k] := by
          intro r hr
          rw [List.take_succ_eq_append_getElem hlt] at hr
          rcases List.mem_append.1 hr with h | h
          · exact .inl (hle r h)
          · simp at h; exact .inr h
        clear hr
        subst ha
        generalize rs[k] = r at *
        obtain ⟨ra, rc, rl⟩ := r
        simp only [Row.v] at hck q1 q2 q3 q4
        by_cases h1000 : rl.length ≤ 1000
        · obtain ⟨v', w2, hrun, own2, gr2, _⟩ := Num.elU8.append w.heap.size (ty := 24) own rl.length rc (by simp [u8s]) q4 q3 (oneCell_u8s _) (by unfold maxLen; omega) (by omega) hb.size
          have hb2 := hb.trans (below_grown own gr2 (Nat.le_refl _) hb.size)
          rw [← u8s_append] at own2
          have O := Lib.hid own2
          have Hs := Lib.hid hs
          have Hs2 := Lib.hid hs2
          have Hb2 := Lib.hid hb2
          clear own own2 hs hs2 hb2 hb gr2 hle q2 q3 q4
          go_wp2_with (at_builtin; (with_reducible apply wpList_append_run hrun); rfl; rfl; rfl; rfl; rfl)
          go_roundw
          case rel => exact ⟨k + 1, by omega, by go_num, by rw [Hs.out]; simpa using O.out, Hb2.out, fun r hr => by rcases Hs2.out r hr with h | h; exact h; rw [h]; exact h1000⟩
          case measure => simp [intOf]; omega
        · have hd : decide (1000 < (rl.length : Int)) = true := by simp; omega
          clear hs hs2 own
          go_wp2
          go_ret
          exact ⟨rfl, hb⟩
      · rw [List.take_of_length_le (by omega)] at own hle hfl
        generalize hall : flat rs = all at *
        have tb := ht.keep hb
        obtain ⟨va, vc, rfl, v1, v2, v3, v4⟩ := rd_own own
        have Hsum : flat rs = all := hall
        have HS := Lib.hid Hsum
        have hno : va = none → vc = 0 ∧ all.length = 0 := by
          rintro rfl
          rcases own.2 with ⟨h, h0⟩ | ⟨g, c, cur, h, _⟩
          · simp at h; exact ⟨h.2, by simp [h.1]⟩
          · simp at h
        have Hno := Lib.hid hno
        clear Hsum hall own hno
        go_wp2_with fail
        refine (Num.bytes_c va vc all _ (by omega) Hno.out v3).mono ?_
        rintro e w3 ⟨g, rfl, hg, rin, hb3⟩
        go_wp2_with fail
        have B3 := hb.trans (hb3.mono hb.size)
        have r3 : Rd w3 (some ⟨g, 0, none⟩) (u8s all) := by have := rin.take all.length; rw [u8s_append, List.take_left' (u8s_length all)] at this; exact this
        have v33 := v3.keep hb3
        refine (sum_c a cap rs w3 (by omega) (fun r hr => by have := hle r hr; omega) (hr.keep B3) (fun r hr => (hrs r hr).2.2.2.keep B3) (ht.keep B3)).mono ?_
        rintro e w' ⟨rfl, rfl⟩
        rw [HS.out]
        go_wp2_with fail
        refine (ref_c 0 _ rfl va vc all _ (by omega) v33).mono ?_
        rintro e w' ⟨rfl, rfl⟩
        go_wp2_with fail
        have b4 := (Below.refl w3.heap.size w3).alloc (Nat.le_refl _) (.cells #[.slice (some ⟨g, 0, none⟩) all.length (all.length + 6)] 24)
        have r4 := Rd.new w3 #[.slice (some ⟨g, 0, none⟩) all.length (all.length + 6)] 24 (0, 0) ([(⟨some ⟨g, 0, none⟩, all.length + 6, all⟩ : Row)].map Row.v) rfl
        have B4 := B3.trans (b4.mono B3.size)
        refine (sum_c _ _ [⟨some ⟨g, 0, none⟩, all.length + 6, all⟩] _ (by simp) (by intro r hr; simp at hr; subst hr; simp; omega) r4 (by intro r hr; simp at hr; subst hr; exact r3.keep b4) (ht.keep B4)).mono ?_
        rintro e w' ⟨rfl, rfl⟩
        rw [show flat [⟨some ⟨g, 0, none⟩, all.length + 6, all⟩] = all by simp [flat]]
        go_wp2_with fail
        refine (ref_c 0 _ rfl va vc all _ (by omega) (v33.keep b4)).mono ?_
        rintro e w' ⟨rfl, rfl⟩
        go_wp2_with fail
        refine (Num.kept_c g va vc all _ (by omega) (rin.keep b4) (v33.keep b4)).mono ?_
        rintro e w5 ⟨rfl, b5⟩
        have B5 := B4.trans (b5.mono B4.size)
        go_wp2_with fail
        refine (more_c sum va vc all _ (by omega) ((v33.keep b4).keep b5) (ht.keep B5)).mono ?_
        rintro e w' ⟨rfl, rfl⟩
        go_wp2_with fail
        refine (ref_c (U32.ofI sum) _ rfl va vc all _ (by omega) ((v33.keep b4).keep b5)).mono ?_
        rintro e w' ⟨rfl, rfl⟩
        go_wp2_with fail
        go_ret
        exact ⟨by simp, B5⟩
  · go_enter Tryd.func3, Tryd.ntmps3
    go_wp2_with (go_at_call 15; refine (alive_c _ ht).mono ?_; rintro e w1 ⟨rfl, hb1⟩)
    go_ret
    exact ⟨rfl, hb1⟩
end Crc
end Go.Proofs.YtjohljpcoodijaaDoor
