/- The model's pool (dofferref30) in memory; Find, Held. -/
import Derived.Test.YtpjimmdpcpcmoaaDoorQPoolMem
import Derived.Test.YtpjimmdpcpcmoaaDoorRows
import Derived.Test.YtpjimmdpcpcmoaaDoorQLib
namespace Go.Proofs.YtpjimmdpcpcmoaaDoor
open Go Go.RowKit Kt
namespace Po
def a2 (q : Int × Int) : List Value := [.int .i64 q.1, .int .i64 q.2]
/-- A slice's block, if any. -/
def sb (a : Option Addr) : List Nat := (a.map (·.block)).toList
/-- The model's blocks: its struct at z, the owners' row, the buffers' row, the accounts' row, the buffers. -/
structure RB (w : World) (z ob oc bb bc : Nat) (aa : Option Addr) (ak : Nat) (G : List Nat) (m : Md) : Prop where
  hp : w.heap[z]? = some (.cells #[.int .i64 (m.size : Int), .slice (some ⟨ob, 0, none⟩) m.own.length oc, .slice (some ⟨bb, 0, none⟩) m.own.length bc, .slice aa m.acc.length ak] 58 (0, 0))
  ho : Rx w ob 3 oc (i64s m.own)
  ock : oc ≤ maxLen
  hb : Rx w bb 54 bc (G.map fun g => .slice (some ⟨g, 0, none⟩) m.size m.size)
  bck : bc ≤ maxLen
  ha : Rd w aa (m.acc.flatMap a2)
  al : m.acc.length ≤ ak
  akk : ak ≤ maxLen
  an : aa = none → ak = 0
  ab : ∀ k ∈ sb aa, k < w.heap.size
  hG : G.length = m.own.length
  hg : ∀ (i g : Nat) (x : List UInt8), G[i]? = some g → m.cont[i]? = some x → Rx w g 5 m.size (u8s x)
  hl : ∀ g ∈ G, g < w.heap.size
  nd : (z :: ob :: bb :: (sb aa ++ G)).Nodup
structure RI (w : World) (z : Nat) (L : List Nat) (m : Md) : Prop where
  ex : ∃ ob oc bb bc aa ak G, RB w z ob oc bb bc aa ak G m ∧ L = z :: ob :: bb :: (sb aa ++ G)
  ok : Ok m
variable {w w' : World} {z ob oc bb bc ak : Nat} {aa : Option Addr} {G : List Nat} {m : Md} {L : List Nat}
theorem RB.lts (h : RB w z ob oc bb bc aa ak G m) : ∀ k ∈ z :: ob :: bb :: (sb aa ++ G), k < w.heap.size := by
  intro k hk
  simp only [List.mem_cons, List.mem_append] at hk
  rcases hk with rfl | rfl | rfl | hk | hk
  · exact block_lt h.hp
  · exact h.ho.lt
  · exact h.hb.lt
  · exact h.ab k hk
  · exact h.hl k hk
theorem RB.mod {S : List Nat} (h : RB w z ob oc bb bc aa ak G m) (hM : Mod S w w') (hS : ∀ k ∈ z :: ob :: bb :: (sb aa ++ G), k ∉ S) : RB w' z ob oc bb bc aa ak G m := by
  refine ⟨(hM.block z (block_lt h.hp) (hS z (by simp))).trans h.hp, h.ho.mod hM (hS ob (by simp)), h.ock, h.hb.mod hM (hS bb (by simp)), h.bck, h.ha.mod hM (fun q hq => hS _ (by subst hq; simp [sb])), h.al, h.akk, h.an, fun k hk => Nat.lt_of_lt_of_le (h.ab k hk) hM.size, h.hG, fun i g x h1 h2 => (h.hg i g x h1 h2).mod hM (hS _ ?_), fun g hg => Nat.lt_of_lt_of_le (h.hl g hg) hM.size, h.nd⟩
  simp only [List.mem_cons, List.mem_append]
  exact .inr (.inr (.inr (.inr (List.mem_of_getElem? h1))))
theorem RI.lts (h : RI w z L m) : ∀ k ∈ L, k < w.heap.size := by obtain ⟨_, _, _, _, _, _, _, h1, rfl⟩ := h.ex; exact h1.lts
theorem RI.mod {S : List Nat} (h : RI w z L m) (hM : Mod S w w') (hS : ∀ k ∈ L, k ∉ S) : RI w' z L m := by
  obtain ⟨ob, oc, bb, bc, aa, ak, G, h1, rfl⟩ := h.ex
  exact ⟨⟨ob, oc, bb, bc, aa, ak, G, h1.mod hM hS, rfl⟩, h.ok⟩
theorem RI.below (h : RI w z L m) (hb : Below w.heap.size w w') : RI w' z L m := h.mod (Mod.of_below hb []) (by simp)
/-- An int's number. -/
def rj : Value → Int
  | .int _ a => a
  | _ => 0
/-- An account's place. -/
def fnd (acc : List (Int × Int)) (x : Int) : Option Nat := acc.findIdx? fun q => decide (q.1 = x)
def fndI (acc : List (Int × Int)) (x : Int) : Int := match fnd acc x with
  | none => -1
  | some i => (i : Int)
theorem fnd_none {acc : List (Int × Int)} {x : Int} : fnd acc x = none ↔ crd acc x = none := by
  simp only [fnd, crd, List.findIdx?_eq_none_iff, Option.map_eq_none_iff, List.find?_eq_none, decide_eq_false_iff_not, decide_eq_true_eq]
theorem fnd_some {acc : List (Int × Int)} (hn : (acc.map (·.1)).Nodup) {x : Int} {i : Nat} (h : fnd acc x = some i) : ∃ hi : i < acc.length, acc[i].1 = x ∧ crd acc x = some acc[i].2 := by
  unfold fnd at h
  rw [List.findIdx?_eq_some_iff_getElem] at h
  obtain ⟨hi, h1, _⟩ := h
  have h2 : acc[i].1 = x := by simpa using h1
  refine ⟨hi, h2, ?_⟩
  have : (x, acc[i].2) ∈ acc := by rw [← h2]; exact List.getElem_mem hi
  exact mem_crd hn this
set_option maxRecDepth 100000 in
set_option maxHeartbeats 1000000 in
theorem rfind_c (x : Int) (w : World) (h : RI w z L m) :
    Calls Tryd.prog 58 #[.pointer (some ⟨z, 0, none⟩), .int .i64 x] w fun e w' => e = .returned (.int .i64 (fndI m.acc x)) ∧ Below w.heap.size w w' := by
  have ha1 := h.ok.a1
  obtain ⟨ob, oc, bb, bc, aa, ak, G, hb, rfl⟩ := h.ex
  have k3 := cell_block hb.hp 3
  have hr := hb.ha
  obtain ⟨n, hn⟩ : ∃ n, m.acc.length = n := ⟨_, rfl⟩
  rw [hn] at k3 ha1
  obtain ⟨acc, hac⟩ : ∃ acc, m.acc = acc := ⟨_, rfl⟩
  rw [hac] at hr hn ⊢
  have HR := Lib.hid hr
  have HN := Lib.hid hn
  obtain ⟨R, hRR⟩ : ∃ R, fndI acc x = R := ⟨_, rfl⟩
  rw [hRR]
  have HRR := Lib.hid hRR
  clear hb h hr hac hn hRR
  go_enter Tryd.func58, Tryd.ntmps58
  go_wp2
  go_loopw [5, 12] (fun _ i W => ∃ j : Nat, j ≤ n ∧ i = .int .i64 (j : Int) ∧ (∀ q ∈ acc.take j, q.1 ≠ x) ∧ Below w.heap.size w W) (fun _ i _ => n - (rj i).toNat)
  case atStart => exact ⟨0, Nat.zero_le _, rfl, by simp, Below.refl _ _⟩
  case round =>
    obtain ⟨j, hj, rfl, hno, hB⟩ := hrel
    by_cases hjn : j < n
    · have hjl : j < acc.length := by rw [HN.out]; exact hjn
      obtain ⟨b, off, rfl, hcs⟩ := (HR.out.keep hB).struct 2 (by intro z _; rfl) j hjl (by omega)
      have c0 := hcs 0 _ rfl (by omega)
      have c1 := hcs 1 _ rfl (by omega)
      have hnx : acc[j].1 ≠ x → ∀ q ∈ acc.take (j + 1), q.1 ≠ x := fun h q hq => by
        rw [← List.take_append_getElem hjl] at hq
        rcases List.mem_append.1 hq with h1 | h1
        · exact hno q h1
        · simp at h1; subst h1; exact h
      have hyes : acc[j].1 = x → fndI acc x = (j : Int) := fun h => by
        have : fnd acc x = some j := by
          unfold fnd
          rw [List.findIdx?_eq_some_iff_getElem]
          refine ⟨hjl, by simpa using h, fun q hq => ?_⟩
          have := hno acc[q] (by rw [List.mem_take_iff_getElem]; exact ⟨q, by omega, rfl⟩)
          simpa using this
        unfold fndI
        rw [this]
      generalize acc[j] = q at *
      obtain ⟨q1, q2⟩ := q
      simp only [Nat.add_zero] at c0 c1 hnx hyes
      rw [← Nat.add_assoc] at c1
      have b5 := hB.trans (((Below.refl wr.heap.size wr).alloc (Nat.le_refl _) (.cells #[.int .i64 q1, .int .i64 q2] 114)).mono hB.size)
      have HB5 := Lib.hid b5
      have Hnx := Lib.hid hnx
      have Hy := Lib.hid hyes
      clear hcs hnx hyes hno hB b5
      by_cases hq : q1 = x
      · subst hq
        have e : R = (j : Int) := by rw [← HRR.out]; exact Hy.out rfl
        have HE := Lib.hid e
        clear e
        go_wp2
        go_ret
        exact ⟨by rw [HE.out]; rfl, HB5.out⟩
      · have hqb : (q1 == x) = false := by simpa using hq
        have Hn2 := Lib.hid (Hnx.out hq)
        clear hq Hnx Hy
        go_wp2
        go_roundw
        case rel => exact ⟨j + 1, by omega, by go_num, Hn2.out, HB5.out⟩
        case measure => simp [rj]; omega
    · obtain rfl : j = n := by omega
      rw [List.take_of_length_le (by rw [HN.out]; exact Nat.le_refl _)] at hno
      have e : R = -1 := by
        rw [← HRR.out]
        unfold fndI
        rw [show fnd acc x = none from by
          unfold fnd
          rw [List.findIdx?_eq_none_iff]
          intro q hq
          simpa using hno q hq]
      have HB := Lib.hid hB
      have HE := Lib.hid e
      clear hno hB e
      go_wp2
      go_ret
      exact ⟨by rw [HE.out]; rfl, HB.out⟩
set_option maxRecDepth 100000 in
set_option maxHeartbeats 1000000 in
theorem rheld_c (x : Int) (w : World) (h : RI w z L m) :
    Calls Tryd.prog 59 #[.pointer (some ⟨z, 0, none⟩), .int .i64 x] w fun e w' => e = .returned (.int .i64 (held m.own x : Int)) ∧ w = w' := by
  have hn2 := h.ok.n2
  obtain ⟨ob, oc, bb, bc, aa, ak, G, hb, rfl⟩ := h.ex
  have k1 := cell_block hb.hp 1
  have hr := hb.ho.rd
  obtain ⟨n, hn⟩ : ∃ n, m.own.length = n := ⟨_, rfl⟩
  rw [hn] at k1 hn2
  obtain ⟨own, hac⟩ : ∃ own, m.own = own := ⟨_, rfl⟩
  rw [hac] at hr hn ⊢
  obtain ⟨R, hRR⟩ : ∃ R, (held own x : Int) = R := ⟨_, rfl⟩
  rw [hRR]
  have HRR := Lib.hid hRR
  have HR := Lib.hid hr
  have HN := Lib.hid hn
  clear hb h hr hac hn hRR
  go_enter Tryd.func59, Tryd.ntmps59
  go_wp2
  go_loopw [5, 7, 13] (fun k _ i W => ∃ j : Nat, j ≤ n ∧ i = .int .i64 (j : Int) ∧ k = .int .i64 ((held (own.take j) x : Nat) : Int) ∧ w = W) (fun _ _ i _ => n - (rj i).toNat)
  case atStart => exact ⟨0, Nat.zero_le _, rfl, rfl, rfl⟩
  case round =>
    obtain ⟨j, hj, rfl, rfl, rfl⟩ := hrel
    by_cases hjn : j < n
    · have hjl : j < own.length := by rw [HN.out]; exact hjn
      obtain ⟨b, off, ha, hc⟩ := HR.out.i64 j hjl
      simp only [Option.some.injEq, Addr.mk.injEq, and_true] at ha
      obtain ⟨rfl, rfl⟩ := ha
      rw [Nat.zero_add] at hc
      have hnx : held (own.take (j + 1)) x = held (own.take j) x + (if own[j] = x ∧ 0 ≤ x then 1 else 0) := by
        unfold held
        rw [← List.take_append_getElem hjl, List.countP_append, List.countP_cons, List.countP_nil]
        simp
      have hle : held (own.take j) x ≤ j := by
        have := List.countP_le_length (p := fun o => decide (o = x) && decide (0 ≤ x)) (l := own.take j)
        unfold held
        rw [List.length_take] at this
        omega
      generalize own[j] = o at *
      obtain ⟨H, hH⟩ : ∃ H, held (own.take j) x = H := ⟨_, rfl⟩
      rw [hH] at hnx hle ⊢
      have HNx := Lib.hid hnx
      clear hnx hH hjl
      by_cases ho : o = x
      · subst ho
        by_cases h0 : 0 ≤ o
        · have hd : decide ((0 : Int) ≤ o) = true := decide_eq_true h0
          go_wp2
          go_roundw
          case rel => exact ⟨j + 1, by omega, by go_num, by rw [HNx.out, if_pos ⟨rfl, h0⟩]; go_num, by first | rfl | trivial⟩
          case measure => simp [rj]; omega
        · have hd : decide ((0 : Int) ≤ o) = false := decide_eq_false h0
          go_wp2
          go_roundw
          case rel => exact ⟨j + 1, by omega, by go_num, by rw [HNx.out, if_neg (by omega), Nat.add_zero], by first | rfl | trivial⟩
          case measure => simp [rj]; omega
      · have hob : (o == x) = false := by simpa using ho
        go_wp2
        go_roundw
        case rel => exact ⟨j + 1, by omega, by go_num, by rw [HNx.out, if_neg (by rintro ⟨h1, _⟩; exact ho h1), Nat.add_zero], by first | rfl | trivial⟩
        case measure => simp [rj]; omega
    · obtain rfl : j = n := by omega
      have e : ((held (own.take j) x : Nat) : Int) = R := by rw [List.take_of_length_le (by rw [HN.out]; exact Nat.le_refl _)]; exact HRR.out
      rw [e]
      clear e
      go_wp2
      go_ret
      exact ⟨rfl, rfl⟩
end Po
end Go.Proofs.YtpjimmdpcpcmoaaDoor
