import Derived.Test.YtpjimmdpcpcmoaaDoorQChnOne3
/- (*chain.Chain).Push: bytes behind. Conditions: the sentinels, and the table of TrailingZeros64, read as laid. -/
namespace Go.Proofs.YtpjimmdpcpcmoaaDoor
open Go Go.RowKit Kt
namespace Ch
open Po
variable {w w' w2 w3 W : World} {k p : Nat} {L L' L2 S S' M l l' : List Nat} {m m' m2 : Md} {c c' : Cn} {acc : Int} {frm many came went : Nat}
def cj : Value → Int
  | .int _ a => a
  | _ => 0
/-- The chain with some bytes more. -/
def psd (c : Cn) (b : List UInt8) : Cn := { c with all := c.all ++ b, came := c.came + b.length }
theorem psd_nil (c : Cn) : psd c [] = c := by simp [psd]
theorem psd_snoc (c : Cn) (b : List UInt8) (x : UInt8) : { psd c b with all := (psd c b).all ++ [x], came := (psd c b).came + 1 } = psd c (b ++ [x]) := by simp [psd, Nat.add_assoc]
theorem St.same (h : CS w p k L S m l c) (hb : Below w.heap.size w w') : St w p k L S m c.acc c w' := ⟨L, S, m, l, h.below hb, Only.refl _ _, Mod.of_below hb _, fun _ h => .inl h⟩
theorem St.of (h : CS w p k L S m l c) : St w p k L S m c.acc c w := St.same h (Below.refl _ _)
theorem St.trans {L1 S1 : List Nat} {m1 : Md} (hM : Mod (L ++ k :: S) w W) (hF : Fr (L1 ++ S1) (L ++ S) w.heap.size) (ho : Only acc m m1) (h : St W p k L1 S1 m1 acc c' w') : St w p k L S m acc c' w' := by
  obtain ⟨L', S', m', l', h1, h2, h3, h4⟩ := h
  have hsz := hM.size
  refine ⟨L', S', m', l', h1, ho.trans h2, hM.trans h3 (fun x hx => ?_), fun x hx => ?_⟩
  · have : x = k ∨ x ∈ L1 ++ S1 := by simp only [List.mem_append, List.mem_cons] at hx ⊢; rcases hx with h5 | h5 | h5 <;> simp [h5]
    rcases this with rfl | h5
    · exact .inl (by simp)
    · rcases hF x h5 with h6 | h6
      · exact .inl (by simp only [List.mem_append, List.mem_cons] at h6 ⊢; rcases h6 with h6 | h6 <;> simp [h6])
      · exact .inr h6
  · rcases h4 x hx with h5 | h5
    · exact hF x h5
    · exact .inr (Nat.le_trans hsz h5)
theorem one_eq {q o : Nat} (hp : Po.Ok m) (h : Ok m l c) (hq : crd m.acc c.acc = some (q : Int)) (ho : used m.own = l.length + o) : one m.size c.frm q o m.own.length c.all.length = if (c.frm + c.all.length) / m.size = l.length then takE m c.acc else 0 := by
  have hs : 0 < m.size := by have := hp.s1; omega
  have hzn : c.all.length = 0 → c.frm = 0 := fun e => h.z (List.length_eq_zero_iff.1 e)
  rw [one_tak h hq ho, h.ln]
  unfold one
  by_cases e : (c.frm + c.all.length) / m.size = need m.size c.frm c.all.length
  · rw [if_pos e, if_pos ((need_iff hs h.fs hzn).1 e)]
  · rw [if_neg e, if_neg (fun e' => e ((need_iff hs h.fs hzn).2 e'))]
/-- One byte: the error, and the chain. -/
theorem one_c {w0 : World} (E : Nat → Addr) (x : UInt8) (hx : (Lit.int .i64 c.acc).wf = true) (hs : Sent 169 w0 E Er.egs) (hT : Bt.Tab w0) (hB : Bs w0 w k L S) (h : CS w p k L S m l c) (hb : c.came ≤ 1000000000) {q o : Nat} (hq : crd m.acc c.acc = some (q : Int)) (ho : used m.own = l.length + o) :
    Calls Tryd.prog 65 #[.pointer (some ⟨k, 0, none⟩), .int .u8 (x.toNat : Int)] w fun e w' => e = .returned (ee E (one m.size c.frm q o m.own.length c.all.length)) ∧ St w p k L S m c.acc (if one m.size c.frm q o m.own.length c.all.length = 0 then psd c [x] else c) w' := by
  have hcw := h.ok.cw
  have hps : psd c [x] = { c with all := c.all ++ [x], came := c.came + 1 } := rfl
  rw [one_eq h.P.ok h.ok hq ho]
  by_cases e : (c.frm + c.all.length) / m.size = l.length
  · rw [if_pos e]
    by_cases ht : takE m c.acc = 0
    · rw [if_pos ht, ht, hps]
      exact one_new E x hx hs hT hB h hb e ht
    · rw [if_neg ht]
      exact (one_no E x.toNat hx (hs.keep hB.B) (hT.below hB.B) h (by omega) e ht).mono fun _ _ ⟨h1, h2⟩ => ⟨h1, St.same h h2⟩
  · rw [if_neg e, if_pos rfl, hps]
    exact (one_at E x hx (hs.keep hB.B) h hb e).mono fun _ w' ⟨m', h1, h2, h3, h4⟩ => ⟨h1, L, S, m', l, h2, h3, h4, fun _ h => .inl h⟩
set_option maxRecDepth 100000 in
set_option maxHeartbeats 2000000 in
/-- Many bytes. -/
theorem push_c {w0 : World} (E : Nat → Addr) (a : Option Addr) (cap : Nat) (b : List UInt8) (hx : (Lit.int .i64 c.acc).wf = true) (hs : Sent 169 w0 E Er.egs) (hT : Bt.Tab w0) (hB : Bs w0 w k L S) (h : CS w p k L S m l c) (hb : c.came + b.length ≤ 1000000000)
    {q o : Nat} (hq : crd m.acc c.acc = some (q : Int)) (ho : used m.own = l.length + o) (hr : ∀ W, Mod (L ++ k :: S) w W → Rd W a (u8s b)) :
    Calls Tryd.prog 38 #[.pointer (some ⟨k, 0, none⟩), .slice a b.length cap] w fun e w' => e = .returned (.tuple #[.int .i64 ((psh (one m.size c.frm q o m.own.length) c.all.length b.length).1 : Int), ee E (psh (one m.size c.frm q o m.own.length) c.all.length b.length).2]) ∧
      St w p k L S m c.acc (psd c (b.take (psh (one m.size c.frm q o m.own.length) c.all.length b.length).1)) w' := by
  have hone : ∀ (j : Nat) (hj : j < b.length) W, St w p k L S m c.acc (psd c (b.take j)) W → Calls Tryd.prog 65 #[.pointer (some ⟨k, 0, none⟩), .int .u8 (b[j].toNat : Int)] W fun e w' => e = .returned (ee E (one m.size c.frm q o m.own.length (c.all.length + j))) ∧
      St w p k L S m c.acc (if one m.size c.frm q o m.own.length (c.all.length + j) = 0 then psd c (b.take (j + 1)) else psd c (b.take j)) w' := by
    intro j hj W hS
    obtain ⟨L', S', m', l', h1, h2, h3, h4⟩ := hS
    have hlen : (psd c (b.take j)).all.length = c.all.length + j := by simp [psd]; omega
    have h5 := one_c (c := psd c (b.take j)) E b[j] hx hs hT (hB.step h3 h4) h1 (by simp only [psd, List.length_take]; omega) (q := q) (o := o) (by rw [h2.acc]; exact hq) (by have := h2.us; have := h.ok.hd; have := h1.ok.hd; simp only [psd] at this; omega)
    rw [hlen, h2.size, h2.len, show (psd c (b.take j)).frm = c.frm from rfl, show psd (psd c (b.take j)) [b[j]] = psd c (b.take (j + 1)) by rw [List.take_succ_eq_append_getElem hj]; exact psd_snoc c _ _] at h5
    exact h5.mono fun _ _ ⟨h6, h7⟩ => ⟨h6, St.trans h3 h4 h2 h7⟩
  have hrd : ∀ W c', St w p k L S m c.acc c' W → Rd W a (u8s b) := fun W c' hS => by
    obtain ⟨L', S', m', l', _, _, h3, _⟩ := hS
    exact hr W h3
  have h0 : St w p k L S m c.acc (psd c (b.take 0)) w := by rw [List.take_zero, psd_nil]; exact St.of h
  have hlen : b.length ≤ 1000000000 := by omega
  generalize one m.size c.frm q o m.own.length = F at *
  generalize c.all.length = n0 at *
  obtain ⟨n, hn⟩ : ∃ n, b.length = n := ⟨_, rfl⟩
  have HOne := Lib.hid hone
  have HRd := Lib.hid hrd
  have H0 := Lib.hid h0
  have HN := Lib.hid hn
  rw [hn] at hlen ⊢
  clear hone hrd h0 hn h hB hs hT hr hx hb hq ho
  go_enter Tryd.func38, Tryd.ntmps38
  go_wp2_with fail
  go_loopw [6, 7, 8, 11] (fun _ _ _ i W => ∃ j : Nat, j ≤ n ∧ i = .int .i64 (j : Int) ∧ (∀ i, i < j → F (n0 + i) = 0) ∧ St w p k L S m c.acc (psd c (b.take j)) W) (fun _ _ _ i _ => n - (cj i).toNat)
  case atStart => exact ⟨0, Nat.zero_le _, rfl, fun i hi => absurd hi (Nat.not_lt_zero _), H0.out⟩
  case round =>
    obtain ⟨j, hj, rfl, hz, hS⟩ := hrel
    by_cases hjn : j < n
    · have hjl : j < b.length := by rw [HN.out]; exact hjn
      obtain ⟨g, off, ha, hc⟩ := (HRd.out _ _ hS).u8 j hjl
      have ho := HOne.out j hjl _ hS
      subst ha
      have HZ := Lib.hid hz
      have HO := Lib.hid ho
      generalize b[j].toNat = xn at *
      clear hz hS ho HOne HRd H0
      by_cases hF : F (n0 + j) = 0
      · rw [hF] at HO
        simp only [if_true] at HO
        have hnil : ee E 0 = .nilIface := rfl
        rw [hnil] at HO
        have HF := Lib.hid hF
        clear hF hnil
        go_wp2_with (go_at_call 65; (with_reducible refine HO.out.mono ?_); rintro e w5 ⟨rfl, h5⟩; have H5 := Lib.hid h5; clear h5)
        go_roundw
        case rel => exact ⟨j + 1, by omega, by go_num, fun i hi => by
          rcases Nat.lt_or_ge i j with h | h
          · exact HZ.out i h
          · obtain rfl : i = j := by omega
            exact HF.out, H5.out⟩
        case measure => simp [cj]; omega
      · rw [if_neg hF] at HO
        obtain ⟨qq, hqq⟩ := ee_some E hF
        rw [hqq] at HO
        have HF := Lib.hid (And.intro hF hqq)
        clear hF hqq
        go_wp2_with (go_at_call 65; (with_reducible refine HO.out.mono ?_); rintro e w5 ⟨rfl, h5⟩; have H5 := Lib.hid h5; clear h5)
        go_ret2
        rw [psh_fail hjn HZ.out HF.out.1, HF.out.2]
        exact ⟨rfl, H5.out⟩
    · obtain rfl : j = n := by omega
      have HZ := Lib.hid (psh_all hz)
      have HS := Lib.hid hS
      clear hz hS
      go_wp2
      go_ret2
      rw [HZ.out]
      exact ⟨rfl, HS.out⟩
end Ch
end Go.Proofs.YtpjimmdpcpcmoaaDoor
