import Derived.Test.YtpjimmdpcpcmoaaDoorQChnOne2
/- (*chain.Chain).one, where a buffer is taken; one's contract. Conditions: the sentinels, and the table of TrailingZeros64, read as laid. -/
namespace Go.Proofs.YtpjimmdpcpcmoaaDoor
open Go Go.RowKit Kt
namespace Ch
open Po
variable {w w' w2 w3 W : World} {k p : Nat} {L L' L2 S S' M l l' : List Nat} {m m' m2 : Md} {c : Cn} {acc : Int} {frm many came went : Nat}
theorem nats_snoc (l : List Nat) (b : Nat) : nats (l ++ [b]) = nats l ++ [.int .i64 (b : Int)] := by simp [nats, i64s]
/-- The chain's row with one number more. -/
theorem fresh_mid (h : CS w p k L S m l c) (hM3 : Mod L w w3) (hP3 : PI w3 p L2 m2) (hF : Fr L2 L w.heap.size) (b : Nat) (hl : l.length ≤ 1000) : ∃ a0 cap0 g off cap w4 S4,
    w3.cell? ⟨k, 2, none⟩ = some (.slice a0 l.length cap0) ∧
    (Builtin.append_ #[38, 38] 38 #[.slice a0 l.length cap0, .slice (some ⟨w3.heap.size, 0, none⟩) 1 1]).run Tryd.prog (w3.alloc (.cells #[.int .i64 (b : Int)] 3)) = .ok (.slice (some ⟨g, off, none⟩) (l.length + 1) cap) w4 ∧
    w4.cell? ⟨k, 2, none⟩ = some (.slice a0 l.length cap0) ∧ w4.frozen? ⟨k, 2, none⟩ = false ∧
    PI (w4.setCell ⟨k, 2, none⟩ (.slice (some ⟨g, off, none⟩) (l.length + 1) cap)) p L2 m2 ∧ CB (w4.setCell ⟨k, 2, none⟩ (.slice (some ⟨g, off, none⟩) (l.length + 1) cap)) k p S4 (l ++ [b]) c.acc c.frm c.all.length c.came c.went ∧
    (∀ x ∈ k :: S4, x ∉ L2) ∧ (w4.setCell ⟨k, 2, none⟩ (.slice (some ⟨g, off, none⟩) (l.length + 1) cap)).cell? ⟨g, off + l.length, none⟩ = some (.int .i64 (b : Int)) ∧ (w4.setCell ⟨k, 2, none⟩ (.slice (some ⟨g, off, none⟩) (l.length + 1) cap)).cell? ⟨k, 2, none⟩ = some (.slice (some ⟨g, off, none⟩) (l.length + 1) cap) ∧ g ∈ S4 ∧
    Mod (L ++ k :: S) w (w4.setCell ⟨k, 2, none⟩ (.slice (some ⟨g, off, none⟩) (l.length + 1) cap)) ∧ Fr (L2 ++ S4) (L ++ S) w.heap.size := by
  have hC3 := h.C.mod hM3 h.d
  obtain ⟨v, h1, h2⟩ := hC3.ex
  obtain ⟨a0, cap0, rfl⟩ := h2.form
  rw [nats_len] at h1 h2
  have hlt := h.C.lts
  have hsz3 := hM3.size
  obtain ⟨v4, w4, S4, hrun, ho, hM4, hS4⟩ := h2.app (P := Tryd.prog) (t := 38) (ty := 38) Tryd.underlying38 (.int .i64 0) 8 (info_parts (by kernel_rfl)) rfl (.int .i64 (b : Int)) rfl (by rw [nats_len]; omega) (by rw [nats_len]; unfold maxLen; omega)
  rw [← nats_snoc] at ho
  obtain ⟨g, off, cap, rfl, hSg, hrow⟩ := ho.cell l.length (by rw [nats_len]; simp)
  rw [nats_len, List.length_append, List.length_cons, List.length_nil, Nat.zero_add] at hrun ho
  have hrv : (nats (l ++ [b]))[l.length]'(by rw [nats_len]; simp) = .int .i64 (b : Int) := by simp [nats, i64s]
  rw [hrv] at hrow
  have hkS := h.C.nk
  have hk3 : k < w3.heap.size := hC3.klt
  have hkS4 : k ∉ S4 := fun e => by
    rcases hS4 k e with h5 | h5
    · exact hkS h5
    · omega
  have hk4 := (hM4.block k hk3 hkS).trans h1
  have hd2 : ∀ x ∈ k :: S, x ∉ L2 := fun x hx e => by
    rcases hF x e with h5 | h5
    · exact h.d x hx h5
    · have := hlt x hx; omega
  have hL2 := hP3.lts
  have hkg : k ≠ g := fun e => hkS4 (by rw [hSg, e]; simp)
  have hM5 : Mod (k :: S) w3 (w4.setCell ⟨k, 2, none⟩ (.slice (some ⟨g, off, none⟩) (l.length + 1) cap)) := (hM4.sub (S' := k :: S) (fun x hx => by simp [hx])).setCell (.inl (by simp)) _
  refine ⟨a0, cap0, g, off, cap, w4, S4, cell_block h1 2, hrun, cell_block hk4 2, frozen_block hk4 2, hP3.mod hM5 (fun x hx e => hd2 x e hx), hC3.setList ho hM4 hkS hkS4, ?_, ?_, cell_block (block_setCell hk4 _) 2, by rw [hSg]; simp, (hM3.sub (fun x hx => by simp [hx])).trans hM5 (fun x hx => .inl (by simp at hx; rcases hx with hx | hx <;> simp [hx])), ?_⟩
  · intro x hx e
    rcases List.mem_cons.1 hx with rfl | hx
    · exact hd2 x (by simp) e
    · rcases hS4 x hx with h5 | h5
      · exact hd2 x (by simp [h5]) e
      · have := hL2 x e; omega
  · exact (World.cell?_setCell_far _ _ _ _ hkg).trans hrow
  · intro x hx
    rcases List.mem_append.1 hx with h5 | h5
    · rcases hF x h5 with h6 | h6
      · exact .inl (by simp [h6])
      · exact .inr h6
    · rcases hS4 x h5 with h6 | h6
      · exact .inl (by simp [h6])
      · exact .inr (by omega)
/-- All blocks are made behind w0. -/
structure Bs (w0 w : World) (k : Nat) (L S : List Nat) : Prop where
  B : Below w0.heap.size w0 w
  lo : ∀ x ∈ L ++ k :: S, w0.heap.size ≤ x
theorem Bs.mod {w0 w W : World} {k : Nat} {L S : List Nat} (h : Bs w0 w k L S) (hM : Mod (L ++ k :: S) w W) : Below w0.heap.size w0 W := h.B.trans (hM.toBelow h.B.size h.lo)
theorem Bs.step {w0 w W : World} {k : Nat} {L S L' S' : List Nat} (h : Bs w0 w k L S) (hM : Mod (L ++ k :: S) w W) (hF : Fr (L' ++ S') (L ++ S) w.heap.size) : Bs w0 W k L' S' :=
  ⟨h.mod hM, fun x hx => by
    have hb := h.B.size
    have h1 : x = k ∨ x ∈ L' ++ S' := by simp only [List.mem_append, List.mem_cons] at hx ⊢; rcases hx with h1 | h1 | h1 <;> simp [h1]
    rcases h1 with rfl | h1
    · exact h.lo x (by simp)
    · rcases hF x h1 with h2 | h2
      · exact h.lo x (by simp only [List.mem_append, List.mem_cons] at h2 ⊢; rcases h2 with h2 | h2 <;> simp [h2])
      · omega⟩
/-- What a call on a chain leaves. -/
def St (w : World) (p k : Nat) (L S : List Nat) (m : Md) (acc : Int) (c' : Cn) (w' : World) : Prop := ∃ L' S' m' l', CS w' p k L' S' m' l' c' ∧ Only acc m m' ∧ Mod (L ++ k :: S) w w' ∧ Fr (L' ++ S') (L ++ S) w.heap.size
theorem Fr.app {A B : List Nat} {n : Nat} (h : Fr A B n) (C : List Nat) : Fr (A ++ C) (B ++ C) n := fun x hx => by
  rcases List.mem_append.1 hx with h1 | h1
  · rcases h x h1 with h2 | h2
    · exact .inl (by simp [h2])
    · exact .inr h2
  · exact .inl (by simp [h1])
set_option maxRecDepth 100000 in
set_option maxHeartbeats 2000000 in
theorem one_new {w0 : World} (E : Nat → Addr) (x : UInt8) (hx : (Lit.int .i64 c.acc).wf = true) (hs : Sent 169 w0 E Er.egs) (hT : Bt.Tab w0) (hB : Bs w0 w k L S) (h : CS w p k L S m l c) (hb : c.came ≤ 1000000000) (hn : (c.frm + c.all.length) / m.size = l.length) (ht : takE m c.acc = 0) :
    Calls Tryd.prog 65 #[.pointer (some ⟨k, 0, none⟩), .int .u8 (x.toNat : Int)] w fun e w' => e = .returned .nilIface ∧ St w p k L S m c.acc { c with all := c.all ++ [x], came := c.came + 1 } w' := by
  have hf := h.f62
  have hll := h.ll
  have hcw := h.ok.cw
  have hpl := place_c h.C h.P c.all.length (by omega)
  have hs0 : 0 < m.size := by have := h.P.ok.s1; omega
  rw [hn] at hpl
  obtain ⟨hok', hon, hpz⟩ := h.ok.fresh h.P.ok x hn ht
  have htk := fun W (hb : Below w.heap.size w W) => take_yes c.acc hx W (h.P.below hb) (hT.below (hB.B.trans (hb.mono hB.B.size))) ht
  have hmid := fun w2 w3 L2 (hb : Below w.heap.size w w2) (hP3 : PI w3 p L2 (tak m c.acc)) (hM : Mod L w2 w3) (hF : Fr L2 L w2.heap.size) => fresh_mid h ((Mod.of_below hb L).trans hM (fun _ hx => .inl hx)) hP3 (fun x hx => by
    rcases hF x hx with h5 | h5
    · exact .inl h5
    · exact .inr (Nat.le_trans hb.size h5)) (takI m c.acc) (by omega)
  have hset := fun W L2 (hP : PI W p L2 (tak m c.acc)) (hM : Mod (L ++ k :: S) w W) => set_yes E c.acc (takI m c.acc) ((c.frm + c.all.length) % m.size : Nat) x hx W hP (hs.keep (hB.mod hM)) hpz
  have hfin := fun W L2 S4 (hC : CB W k p S4 (l ++ [takI m c.acc]) c.acc c.frm c.all.length c.came c.went) (hP : PI W p L2 (put (tak m c.acc) c.acc (takI m c.acc) ((c.frm + c.all.length) % m.size : Nat) x)) (hd : ∀ x ∈ k :: S4, x ∉ L2) => one_fin hC hP hd x hok'
  obtain ⟨a, cap, hsl, k0, k1, k2, k3, k4, _⟩ := h.C.cells
  have hsk : ∀ W, Below w.heap.size w W → W.cell? ⟨k, 0, none⟩ = some (.pointer (some ⟨p, 0, none⟩)) ∧ W.cell? ⟨k, 1, none⟩ = some (.int .i64 c.acc) ∧ W.cell? ⟨k, 2, none⟩ = some (.slice a l.length cap) := fun W hb => ⟨(hb.cell (lt_of_cell k0)).trans k0, (hb.cell (lt_of_cell k1)).trans k1, (hb.cell (lt_of_cell k2)).trans k2⟩
  have hsk3 : ∀ W, Mod L w W → W.cell? ⟨k, 0, none⟩ = some (.pointer (some ⟨p, 0, none⟩)) ∧ W.cell? ⟨k, 1, none⟩ = some (.int .i64 c.acc) := fun W hM => by
    obtain ⟨_, _, _, p0, p1, _⟩ := (h.C.mod hM h.d).cells
    exact ⟨p0, p1⟩
  have hcb : ∀ W S4 l4, CB W k p S4 l4 c.acc c.frm c.all.length c.came c.went → W.cell? ⟨k, 0, none⟩ = some (.pointer (some ⟨p, 0, none⟩)) ∧ W.cell? ⟨k, 1, none⟩ = some (.int .i64 c.acc) ∧ W.cell? ⟨k, 4, none⟩ = some (.int .i64 (c.all.length : Int)) ∧ W.cell? ⟨k, 5, none⟩ = some (.int .i64 (c.came : Int)) ∧ W.frozen? ⟨k, 4, none⟩ = false ∧ W.frozen? ⟨k, 5, none⟩ = false := fun W S4 l4 hC => by
    obtain ⟨_, _, _, p0, p1, _, _, p4, p5, _, pf⟩ := hC.cells
    exact ⟨p0, p1, p4, p5, pf 4, pf 5⟩
  have hca : c.all.length ≤ 1000000000 := by omega
  generalize hmm : put (tak m c.acc) c.acc (takI m c.acc) ((c.frm + c.all.length) % m.size : Nat) x = mm at *
  generalize (c.frm + c.all.length) % m.size = t at *
  generalize takI m c.acc = b at *
  generalize tak m c.acc = m2 at *
  have HPost := Lib.hid (show ∀ W' L' S' l', CS W' p k L' S' mm l' { c with all := c.all ++ [x], came := c.came + 1 } → Mod (L ++ k :: S) w W' → Fr (L' ++ S') (L ++ S) w.heap.size → St w p k L S m c.acc { c with all := c.all ++ [x], came := c.came + 1 } W' from fun W' L' S' l' h1 h2 h3 => ⟨L', S', mm, l', h1, hon, h2, h3⟩)
  have HFin := Lib.hid hfin
  have HCB := Lib.hid hcb
  obtain ⟨n, hn1⟩ : ∃ n, l.length = n := ⟨_, rfl⟩
  obtain ⟨many, hm1⟩ : ∃ n, c.all.length = n := ⟨_, rfl⟩
  obtain ⟨came, hm2⟩ : ∃ n, c.came = n := ⟨_, rfl⟩
  obtain ⟨acc, hm3⟩ : ∃ n, c.acc = n := ⟨_, rfl⟩
  obtain ⟨xn, hm4⟩ : ∃ n, x.toNat = n := ⟨_, rfl⟩
  rw [hn1] at hpl k2 hsk hll
  rw [hm1] at hpl k4 hca
  rw [hm2] at hb
  rw [hm3] at htk hset hsk hsk3 k1
  rw [hm4] at hset ⊢
  have HPl := Lib.hid hpl
  have HSet := Lib.hid hset
  have HTk := Lib.hid htk
  have HSk := Lib.hid hsk
  have HSk3 := Lib.hid hsk3
  have HMid := Lib.hid hmid
  have HE := Lib.hid (And.intro hn1 (And.intro hm1 (And.intro hm2 hm3)))
  have hkw := h.C.klt
  have hDis := h.d
  have HDis := Lib.hid (And.intro hDis hkw)
  clear hpl hset htk hsk hsk3 hmid hfin hcb hon hok' h hs hT hB hsl hn hcw hmm hm1 hm2 hm3 hm4 hn1 hx hpz ht hDis hkw k0 k1 k2 k3 hs0
  go_enter Tryd.func65, Tryd.ntmps65
  go_wp2_with fail
  with_reducible refine HPl.out.mono ?_
  rintro e w2 ⟨rfl, hb2⟩
  obtain ⟨q0, q1, q2⟩ := HSk.out w2 hb2
  have b2 : Below w.heap.size w w2.drew := hb2.drew
  clear k4
  go_wp2_with fail
  go_region_held3 (fun W => W.cell? ⟨k, 0, none⟩ = some (.pointer (some ⟨p, 0, none⟩)) ∧ W.cell? ⟨k, 1, none⟩ = some (.int .i64 acc))
    (first | exact HSk3.out _ M3 | exact ⟨(HSk.out _ b2).1, (HSk.out _ b2).2.1⟩)
    ((go_at_call 13; (with_reducible refine (HTk.out _ b2).mono ?_); rintro e w3 ⟨L2, rfl, P3, M3', F3⟩; have M3 := (Mod.of_below b2 L).trans M3' (fun _ h => .inl h)))
  obtain ⟨a0, cap0, g, off, cp, w4, S4, r1, r2, r3, r4, P5, C5, d5, r5, r6, g5, M5, F5⟩ := HMid.out _ w3 L2 b2 P3 M3' F3
  have e1 := HE.out.1
  rw [e1] at r1 r2 r3 P5 C5 r5 r6 M5
  obtain ⟨W5, hW5⟩ : ∃ W5, w4.setCell ⟨k, 2, none⟩ (.slice (some ⟨g, off, none⟩) (n + 1) cp) = W5 := ⟨_, rfl⟩
  rw [hW5] at P5 C5 r5 r6 M5
  obtain ⟨u0, u1, _⟩ := HCB.out _ _ _ C5
  rw [HE.out.2.2.2] at u1
  have hg5 := lt_of_cell r5
  have hk5 := lt_of_cell r6
  simp only at hg5 hk5
  have H5 := Lib.hid (And.intro P5 (And.intro C5 (And.intro d5 (And.intro g5 (And.intro M5 (And.intro F5 hW5))))))
  have HS5 := Lib.hid (And.intro u0 (And.intro u1 (And.intro r6 (And.intro r5 (And.intro hk5 hg5)))))
  clear P5 C5 d5 g5 M5 F5 hW5 u0 u1 r5 r6 P3 M3 M3' F3 b2 hb2 q0 q1 q2 e1 HMid HTk HSk HSk3 HPl hg5 hk5
  go_wp2_with (at_builtin; (with_reducible apply wpList_append_run r2); rfl; rfl; rfl; rfl; rfl)
  rw [H5.out.2.2.2.2.2.2]
  have b5 : Below W5.heap.size W5 W5.drew := (Below.refl _ _).drew
  have hx0 : (0 : Int) ≤ (n : Int) := Int.natCast_nonneg n
  have hx1 : (n : Int) < (n : Int) + 1 := by omega
  have hx2 : (n : Int) < ((n + 1 : Nat) : Int) := by omega
  clear r1 r2 r3 r4
  go_wp2_with fail
  go_region_held3 (fun W => W.cell? ⟨k, 0, none⟩ = some (.pointer (some ⟨p, 0, none⟩)) ∧ W.cell? ⟨k, 1, none⟩ = some (.int .i64 acc) ∧ W.cell? ⟨k, 2, none⟩ = some (.slice (some ⟨g, off, none⟩) (n + 1) cp) ∧ W.cell? ⟨g, off + n, none⟩ = some (.int .i64 (b : Int)))
    (first | exact ⟨(M6.cell HS5.out.2.2.2.2.1 (H5.out.2.2.1 k (by simp))).trans HS5.out.1, (M6.cell HS5.out.2.2.2.2.1 (H5.out.2.2.1 k (by simp))).trans HS5.out.2.1, (M6.cell HS5.out.2.2.2.2.1 (H5.out.2.2.1 k (by simp))).trans HS5.out.2.2.1, (M6.cell HS5.out.2.2.2.2.2 (H5.out.2.2.1 g (by simp [H5.out.2.2.2.1]))).trans HS5.out.2.2.2.1⟩ | exact ⟨HS5.out.1, HS5.out.2.1, HS5.out.2.2.1, HS5.out.2.2.2.1⟩)
    ((go_at_call 31; (with_reducible refine (HSet.out _ L2 (H5.out.1.below b5) (H5.out.2.2.2.2.1.below b5)).mono ?_); rintro e w6 ⟨rfl, P6, M6'⟩; have M6 := (Mod.of_below b5 L2).trans M6' (fun _ h => .inl h)))
  have C6 := H5.out.2.1.mod M6 H5.out.2.2.1
  have N6 : Mod (L ++ k :: S) w w6 := H5.out.2.2.2.2.1.trans M6 (fun x hx => by
    rcases H5.out.2.2.2.2.2.1 x (by simp [hx]) with h5 | h5
    · exact .inl (by simp only [List.mem_append, List.mem_cons] at h5 ⊢; rcases h5 with h5 | h5 <;> simp [h5])
    · exact .inr h5)
  obtain ⟨_, _, p4, p5, f4, f5⟩ := HCB.out _ _ _ C6
  have H6 := Lib.hid (HFin.out w6 L2 S4 C6 P6 H5.out.2.2.1)
  have HN6 := Lib.hid N6
  have HF6 := Lib.hid H5.out.2.2.2.2.2.1
  rw [HE.out.2.1] at p4
  rw [HE.out.2.2.1] at p5
  clear C6 N6 M6 M6' P6 b5 HFin HCB HSet H5 HS5
  go_wp2
  go_ret
  have e1 := HE.out.2.1
  subst e1
  have e2 := HE.out.2.2.1
  subst e2
  obtain ⟨C7, N7⟩ := H6.out
  exact ⟨rfl, HPost.out _ _ _ _ C7 (HN6.out.trans N7 (fun y hy => .inl (by simp only [List.mem_singleton] at hy; simp [hy]))) HF6.out⟩
end Ch
end Go.Proofs.YtpjimmdpcpcmoaaDoor
