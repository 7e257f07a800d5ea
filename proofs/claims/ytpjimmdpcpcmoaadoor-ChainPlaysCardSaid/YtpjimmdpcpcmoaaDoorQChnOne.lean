import Derived.Test.YtpjimmdpcpcmoaaDoorQChnMem
import Derived.Deep.RegionHeld3
/- (*chain.Chain).one: a byte behind. Conditions: the sentinels, and the table of TrailingZeros64, read as laid. -/
namespace Go.Proofs.YtpjimmdpcpcmoaaDoor
open Go Go.RowKit Kt
namespace Ch
open Po
variable {w w' : World} {k p : Nat} {L S M l : List Nat} {m : Md} {c : Cn} {acc : Int} {frm many came went : Nat}
theorem ee_some (E : Nat → Addr) {n : Int} (h : n ≠ 0) : ∃ q, ee E n = .iface 169 (.pointer (some q)) := by
  unfold ee
  rw [if_neg h]
  exact ⟨_, rfl⟩
/-- The struct's cells. -/
theorem CB.cells (h : CB w k p S l acc frm many came went) : ∃ a cap, SlO w 3 (.slice a l.length cap) S (nats l) ∧ w.cell? ⟨k, 0, none⟩ = some (.pointer (some ⟨p, 0, none⟩)) ∧ w.cell? ⟨k, 1, none⟩ = some (.int .i64 acc) ∧ w.cell? ⟨k, 2, none⟩ = some (.slice a l.length cap) ∧
    w.cell? ⟨k, 3, none⟩ = some (.int .i64 (frm : Int)) ∧ w.cell? ⟨k, 4, none⟩ = some (.int .i64 (many : Int)) ∧ w.cell? ⟨k, 5, none⟩ = some (.int .i64 (came : Int)) ∧ w.cell? ⟨k, 6, none⟩ = some (.int .i64 (went : Int)) ∧ ∀ i, w.frozen? ⟨k, i, none⟩ = false := by
  obtain ⟨v, h1, h2⟩ := h.ex
  obtain ⟨a, cap, rfl⟩ := h2.form
  rw [nats_len] at h1 h2
  exact ⟨a, cap, h2, cell_block h1 0, cell_block h1 1, cell_block h1 2, cell_block h1 3, cell_block h1 4, cell_block h1 5, cell_block h1 6, frozen_block h1⟩
theorem CB.setList (h : CB w k p S l acc frm many came went) {v' : Value} {S' l' : List Nat} (ho : SlO w' 3 v' S' (nats l')) (hM : Mod M w w') (hk : k ∉ M) (hk' : k ∉ S') : CB (w'.setCell ⟨k, 2, none⟩ v') k p S' l' acc frm many came went := by
  obtain ⟨v, h1, h2⟩ := h.ex
  have h3 := (hM.block k (block_lt h1) hk).trans h1
  refine ⟨⟨v', block_setCell h3 v', ho.mod (M := [k]) ((Mod.refl [k] w').setCell (.inl (by simp)) _) (fun x hx e => ?_)⟩, hk'⟩
  simp only [List.mem_singleton] at e
  subst e
  exact hk' hx
theorem CB.setFrm (h : CB w k p S l acc frm many came went) (n : Nat) : CB (w.setCell ⟨k, 3, none⟩ (.int .i64 (n : Int))) k p S l acc n many came went := by
  obtain ⟨v, h1, h2⟩ := h.ex
  exact ⟨⟨v, block_setCell h1 _, h2.mod (M := [k]) ((Mod.refl [k] w).setCell (.inl (by simp)) _) (fun x hx e => h.nk (by simp only [List.mem_singleton] at e; exact e ▸ hx))⟩, h.nk⟩
theorem CB.setMany (h : CB w k p S l acc frm many came went) (n : Nat) : CB (w.setCell ⟨k, 4, none⟩ (.int .i64 (n : Int))) k p S l acc frm n came went := by
  obtain ⟨v, h1, h2⟩ := h.ex
  exact ⟨⟨v, block_setCell h1 _, h2.mod (M := [k]) ((Mod.refl [k] w).setCell (.inl (by simp)) _) (fun x hx e => h.nk (by simp only [List.mem_singleton] at e; exact e ▸ hx))⟩, h.nk⟩
theorem CB.setCame (h : CB w k p S l acc frm many came went) (n : Nat) : CB (w.setCell ⟨k, 5, none⟩ (.int .i64 (n : Int))) k p S l acc frm many n went := by
  obtain ⟨v, h1, h2⟩ := h.ex
  exact ⟨⟨v, block_setCell h1 _, h2.mod (M := [k]) ((Mod.refl [k] w).setCell (.inl (by simp)) _) (fun x hx e => h.nk (by simp only [List.mem_singleton] at e; exact e ▸ hx))⟩, h.nk⟩
theorem CB.setWent (h : CB w k p S l acc frm many came went) (n : Nat) : CB (w.setCell ⟨k, 6, none⟩ (.int .i64 (n : Int))) k p S l acc frm many came n := by
  obtain ⟨v, h1, h2⟩ := h.ex
  exact ⟨⟨v, block_setCell h1 _, h2.mod (M := [k]) ((Mod.refl [k] w).setCell (.inl (by simp)) _) (fun x hx e => h.nk (by simp only [List.mem_singleton] at e; exact e ▸ hx))⟩, h.nk⟩
set_option maxRecDepth 100000 in
set_option maxHeartbeats 1000000 in
theorem one_no (E : Nat → Addr) (x : Nat) (hx : (Lit.int .i64 c.acc).wf = true) (hs : Sent 169 w E Er.egs) (hT : Bt.Tab w) (h : CS w p k L S m l c) (hb : c.all.length ≤ 1000000000) (hn : (c.frm + c.all.length) / m.size = l.length) (ht : takE m c.acc ≠ 0) :
    Calls Tryd.prog 65 #[.pointer (some ⟨k, 0, none⟩), .int .u8 (x : Int)] w fun e w' => e = .returned (ee E (takE m c.acc)) ∧ Below w.heap.size w w' := by
  have hf := h.f62
  have hll := h.ll
  have hpl := place_c h.C h.P c.all.length (by omega)
  rw [hn] at hpl
  have hcl := fun W (hb : Below w.heap.size w W) => (h.C.below hb).cells
  have htk := fun W (hb : Below w.heap.size w W) => take_no E c.acc hx W (h.P.below hb) (hT.below hb) (hs.keep hb) ht
  obtain ⟨q, hq⟩ := ee_some E ht
  rw [hq] at htk ⊢
  obtain ⟨a, cap, _, k0, k1, k2, k3, k4, _⟩ := hcl w (Below.refl _ _)
  have hsk : ∀ W, Below w.heap.size w W → W.cell? ⟨k, 0, none⟩ = some (.pointer (some ⟨p, 0, none⟩)) ∧ W.cell? ⟨k, 1, none⟩ = some (.int .i64 c.acc) ∧ W.cell? ⟨k, 2, none⟩ = some (.slice a l.length cap) := fun W hb => ⟨(hb.cell (lt_of_cell k0)).trans k0, (hb.cell (lt_of_cell k1)).trans k1, (hb.cell (lt_of_cell k2)).trans k2⟩
  generalize l.length = n at *
  generalize (c.frm + c.all.length) % m.size = t at *
  generalize c.all.length = many at *
  generalize c.acc = acc at *
  have HPl := Lib.hid hpl
  have HTk := Lib.hid htk
  have HSk := Lib.hid hsk
  clear h hs hT hcl hpl htk hsk hq ht hx hn k0 k1 k2 k3
  go_enter Tryd.func65, Tryd.ntmps65
  go_wp2_with fail
  with_reducible refine HPl.out.mono ?_
  rintro e w2 ⟨rfl, hb2⟩
  obtain ⟨q0, q1, q2⟩ := HSk.out w2 hb2
  have b2 : Below w.heap.size w w2.drew := hb2.drew
  clear k4
  go_wp2_with fail
  go_region_held3 (fun W => W.cell? ⟨k, 0, none⟩ = some (.pointer (some ⟨p, 0, none⟩)) ∧ W.cell? ⟨k, 1, none⟩ = some (.int .i64 acc)) (first | exact ⟨(HSk.out _ b3).1, (HSk.out _ b3).2.1⟩ | exact ⟨(HSk.out _ b2).1, (HSk.out _ b2).2.1⟩)
    ((go_at_call 13; (with_reducible refine (HTk.out _ b2).mono ?_); rintro e w3 ⟨rfl, hb3⟩; have b3 := b2.trans (hb3.mono b2.size)))
  go_wp2
  go_ret
  exact ⟨rfl, b3⟩
end Ch
end Go.Proofs.YtpjimmdpcpcmoaaDoor
