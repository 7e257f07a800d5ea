/- The document's Num and Row (dofferref04). -/
import Derived.Test.YtjohljpcoodijaaDoorPackOut2
namespace Go.Proofs.YtjohljpcoodijaaDoor
open Go Go.RowKit Kt
namespace Pk
set_option maxHeartbeats 1000000 in
set_option maxRecDepth 100000 in
theorem rnum_c (n : Nat) : ∀ (L : Nat) (w : World), n ≤ 2147483647 → (enc n).length = L →
    Calls Tryd.prog 75 #[.int .i64 n] w fun e w' => ∃ a c, e = .returned (.slice a L c) ∧ w'.ownsRow w.heap.size 5 1 (.slice a L c) L (u8s (enc n)) ∧ Below w.heap.size w w' := by
  induction n using Nat.strongRecOn with
  | _ n ih =>
    intro L w h31 hL
    by_cases hbig : n < 128
    · have henc := enc_small hbig
      have b1 := (Below.refl w.heap.size w).alloc (Nat.le_refl _) (.cells #[.int .u8 (n : Int)] 5)
      have own := own_new w w.heap.size 5 1 1 #[.int .u8 (n : Int)] (Nat.le_refl _) (by decide) rfl
      rw [henc] at hL ⊢
      have hL1 : L = 1 := by rw [← hL]; rfl
      subst hL1
      have e : (#[.int .u8 (n : Int)] : Array Value).toList = u8s [UInt8.ofNat n] := by simp [u8s]; omega
      rw [e] at own
      have O := Lib.hid own
      have HB := Lib.hid b1
      clear own b1 henc hL e
      go_enter Tryd.func75, Tryd.ntmps75
      go_wp2
      go_ret
      exact ⟨_, _, rfl, O.out, HB.out⟩
    · have henc := enc_big hbig
      obtain ⟨M, hM⟩ : ∃ M, (enc (n / 128)).length = M := ⟨_, rfl⟩
      have hL2 : L = 1 + M := by rw [← hL, henc, List.length_cons, hM]; omega
      have hM5 : M ≤ 5 := by rw [← hM]; exact enc_len5 (by omega)
      subst hL2
      have b1 := (Below.refl w.heap.size w).alloc (Nat.le_refl _) (.cells #[.int .u8 ((n : Int) % 128 + 128)] 5)
      have own := own_new w w.heap.size 5 1 1 #[.int .u8 ((n : Int) % 128 + 128)] (Nat.le_refl _) (by decide) rfl
      have hrec := ih (n / 128) (by omega) M (w.alloc (.cells #[.int .u8 ((n : Int) % 128 + 128)] 5)) (by omega) hM
      have hdiv : (((n / 128 : Nat)) : Int) = (n : Int) / 128 := by omega
      rw [hdiv] at hrec
      have e : (#[.int .u8 ((n : Int) % 128 + 128)] : Array Value).toList = u8s [UInt8.ofNat (n % 128 + 128)] := by simp [u8s]; omega
      rw [e] at own
      have O := Lib.hid own
      have HB := Lib.hid b1
      have HE := Lib.hid henc
      clear own b1 henc hL e hdiv ih hM
      go_enter Tryd.func75, Tryd.ntmps75
      go_wp2_with fail
      refine hrec.mono ?_
      rintro e w5 ⟨a5, c5, rfl, own5, hb5⟩
      obtain ⟨a6, c6, w6, hrun, own6, gr6, _⟩ := Num.elU8.any w.heap.size (ty := 24) (own_keep O.out hb5) M c5 (by rw [(own5).1, Nat.mul_one]) (Rd.own own5) (fun h => by subst h; exact (own_none own5).1) (oneCell_u8s _) (by unfold maxLen; omega) (by omega) (by have := HB.out.size; have := hb5.size; omega)
      have hB6 : Below w.heap.size w w6 := (HB.out.trans (hb5.mono HB.out.size)).grown gr6 (by have := HB.out.size; have := hb5.size; omega) (fun j hj => ((own_keep O.out hb5).lt j hj).1)
      have O6 := Lib.hid own6
      have HB6 := Lib.hid hB6
      clear own5 hb5 own6 gr6 hB6
      go_wp2_with (at_builtin; (with_reducible apply wpList_append_run hrun); rfl; rfl; rfl; rfl; rfl)
      go_ret
      exact ⟨a6, c6, rfl, by rw [HE.out, show UInt8.ofNat (n % 128 + 128) :: enc (n / 128) = [UInt8.ofNat (n % 128 + 128)] ++ enc (n / 128) from rfl, u8s_append]; exact O6.out, HB6.out⟩
/-- An append of what a call has just made to a row of one's own. -/
theorem own_app {w w1 : World} {B n m : Nat} {v : Value} {xs ys : List UInt8} {a : Option Addr} {c : Nat} (ho : w.ownsRow B 5 1 v n (u8s xs)) (hb : Below w.heap.size w w1) (hB : B ≤ w.heap.size)
    (hy : w1.ownsRow w.heap.size 5 1 (.slice a m c) m (u8s ys)) (h63 : n + m ≤ 1000000000) :
    ∃ a' c' w2, (Builtin.append_ #[24, 24] 24 #[v, .slice a m c]).run Tryd.prog w1 = .ok (.slice a' (n + m) c') w2 ∧ w2.ownsRow B 5 1 (.slice a' (n + m) c') (n + m) (u8s (xs ++ ys)) ∧ w1.grownBy w2 v.ownBlock ∧
      (∀ k, (Value.slice a' (n + m) c').ownBlock = some k → v.ownBlock = some k ∨ w1.heap.size ≤ k) := by
  obtain ⟨a', c', w2, hrun, own, gr, hlie⟩ := Num.elU8.any B (ty := 24) (own_keep ho hb) m c (by rw [hy.1, Nat.mul_one]) (Rd.own hy) (fun h => by subst h; exact (own_none hy).1) (oneCell_u8s _) (by unfold maxLen; omega) (by omega) (by have := hb.size; omega)
  exact ⟨a', c', w2, hrun, by rw [u8s_append]; exact own, gr, hlie⟩

def RrR (w : World) (l : List Int) (n : Nat) (v i : Value) (W : World) : Prop := ∃ (k m : Nat), k ≤ n ∧ i = .int .i64 k ∧ m ≤ 5 + 5 * k ∧ (∃ a c, v = .slice a m c) ∧ W.ownsRow w.heap.size 5 1 v m (u8s (enc n ++ encs (l.take k))) ∧ Below w.heap.size w W
set_option maxHeartbeats 2000000 in
set_option maxRecDepth 100000 in
theorem rrow_c (a : Option Addr) (c n : Nat) (l : List Int) (w : World) (hl : l.length = n) (hr : Rd w a (i64s l)) (hm : n ≤ 1000) (hok : l.any nbad = false) :
    Calls Tryd.prog 76 #[.slice a n c] w fun e w' => ∃ a' m c', e = .returned (.slice a' m c') ∧ m ≤ 5 + 5 * n ∧ w'.ownsRow w.heap.size 5 1 (.slice a' m c') m (u8s (encRow l)) ∧ Below w.heap.size w w' := by
  have HR := Lib.hid hr
  have HL := Lib.hid hl
  have HOk := Lib.hid hok
  obtain ⟨N, hN⟩ : ∃ N, (enc n).length = N := ⟨_, rfl⟩
  have hN5 : N ≤ 5 := by rw [← hN]; exact enc_len5 (by omega)
  have hcall := rnum_c n N w (by omega) hN
  clear hr hl hok hN
  go_enter Tryd.func76, Tryd.ntmps76
  go_wp2_with fail
  refine hcall.mono ?_
  rintro e w5 ⟨a5, c5, rfl, own5, hb5⟩
  have O5 := Lib.hid own5
  have HB5 := Lib.hid hb5
  clear own5 hb5
  go_wp2_with fail
  go_loopw [3, 5, 11] (fun v _ i W => RrR w l n v i W) (fun _ _ i _ => n - (intOf i).toNat)
  case atStart => exact ⟨0, N, Nat.zero_le _, rfl, by omega, ⟨_, _, rfl⟩, by simpa [encs] using O5.out, HB5.out⟩
  case round =>
    clear O5 HB5
    obtain ⟨k, m, hk, rfl, hm5, ⟨av, cv, rfl⟩, own, hB⟩ := hrel
    by_cases hlt : k < n
    · have hkl : k < l.length := by rw [HL.out]; exact hlt
      obtain ⟨b, off, ha, hc⟩ := (HR.out.keep hB).i64 k hkl
      have htk : l.take (k + 1) = l.take k ++ [l[k]] := by simp
      have hx : nbad l[k] = false := by
        have := HOk.out
        rw [List.any_eq_false] at this
        simpa using this l[k] (List.getElem_mem hkl)
      generalize l[k] = x at *
      have henc : enc n ++ encs (l.take (k + 1)) = (enc n ++ encs (l.take k)) ++ enc (x + 1).toNat := by rw [htk, encs_snoc]; simp
      have hx2 : ¬ (x < -1 ∨ 2147483646 < x) := by simpa [nbad] using hx
      have hx3 : -1 ≤ x := by omega
      have hx4 : x ≤ 2147483646 := by omega
      obtain ⟨M, hM⟩ : ∃ M, (enc (x + 1).toNat).length = M := ⟨_, rfl⟩
      have hM5 : M ≤ 5 := by rw [← hM]; exact enc_len5 (by omega)
      have hcast : (((x + 1).toNat : Nat) : Int) = x + 1 := by omega
      have hcall := rnum_c (x + 1).toNat M wr (by omega) hM
      rw [hcast] at hcall
      subst ha
      have O := Lib.hid own
      have HB := Lib.hid hB
      have HE := Lib.hid henc
      clear htk hx henc hx2 hM hcast own hB
      go_wp2_with fail
      refine hcall.mono ?_
      rintro e w5 ⟨a5, c5, rfl, own5, hb5⟩
      obtain ⟨a6, c6, w6, hrun, own6, gr6, _⟩ := own_app O.out hb5 HB.out.size own5 (by omega)
      have hB6 : Below w.heap.size w w6 := (HB.out.trans (hb5.mono HB.out.size)).grown gr6 (by have := HB.out.size; have := hb5.size; omega) (fun j hj => ((own_keep O.out hb5).lt j hj).1)
      have O6 := Lib.hid own6
      have HB6 := Lib.hid hB6
      clear own5 hb5 own6 gr6 hB6
      go_wp2_with (at_builtin; (with_reducible apply wpList_append_run hrun); rfl; rfl; rfl; rfl; rfl)
      go_roundw
      case rel => first | exact ⟨k + 1, m + M, by omega, by go_num, by omega, ⟨_, _, rfl⟩, by rw [HE.out]; exact O6.out, HB6.out⟩ | ((repeat apply Exists.intro); refine ⟨?r, ?f⟩; (case f => (and_intros <;> rfl)); exact ⟨k + 1, m + M, by omega, by go_num, by omega, ⟨_, _, rfl⟩, by rw [HE.out]; exact O6.out, HB6.out⟩)
      case measure => simp [intOf]; omega
    · have : k = n := by omega
      subst this
      rw [List.take_of_length_le (by rw [HL.out]; exact Nat.le_refl _)] at own
      have O := Lib.hid own
      clear own
      go_wp2
      go_ret
      exact ⟨av, m, cv, rfl, by omega, by unfold encRow; rw [HL.out]; exact O.out, hB⟩
end Pk
end Go.Proofs.YtjohljpcoodijaaDoor
