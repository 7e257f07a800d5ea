import Derived.Test.YtpjimmdpcpcmoaaDoorQChnOne
/- (*chain.Chain).one, where there is room in the last buffer; what stands behind the store. Conditions: the sentinels read as laid. -/
namespace Go.Proofs.YtpjimmdpcpcmoaaDoor
open Go Go.RowKit Kt
namespace Ch
open Po
variable {w w' W : World} {k p : Nat} {L L' S S' M l l' : List Nat} {m m' : Md} {c : Cn} {acc : Int} {frm many came went : Nat}
/-- Behind the two stores that end 'one'. -/
theorem one_fin (h : CB w k p S l c.acc c.frm c.all.length c.came c.went) (hP : PI w p L m) (hd : ∀ x ∈ k :: S, x ∉ L) (x : UInt8) (hok : Ok m l { c with all := c.all ++ [x], came := c.came + 1 }) :
    CS ((w.setCell ⟨k, 4, none⟩ (.int .i64 ((c.all.length : Int) + 1))).setCell ⟨k, 5, none⟩ (.int .i64 ((c.came : Int) + 1))) p k L S m l { c with all := c.all ++ [x], came := c.came + 1 } ∧ Mod [k] w ((w.setCell ⟨k, 4, none⟩ (.int .i64 ((c.all.length : Int) + 1))).setCell ⟨k, 5, none⟩ (.int .i64 ((c.came : Int) + 1))) := by
  have e1 : ((c.all.length : Int) + 1) = ((c.all.length + 1 : Nat) : Int) := by simp
  have e2 : ((c.came : Int) + 1) = ((c.came + 1 : Nat) : Int) := by simp
  rw [e1, e2]
  have hM : Mod [k] w ((w.setCell ⟨k, 4, none⟩ (.int .i64 ((c.all.length + 1 : Nat) : Int))).setCell ⟨k, 5, none⟩ (.int .i64 ((c.came + 1 : Nat) : Int))) := ((Mod.refl [k] w).setCell (.inl (by simp)) _).setCell (.inl (by simp)) _
  refine ⟨⟨hP.mod hM (fun y hy e => ?_), ?_, hd, hok⟩, hM⟩
  · simp only [List.mem_singleton] at e
    subst e
    exact hd y (by simp) hy
  · have := (h.setMany (c.all.length + 1)).setCame (c.came + 1)
    simpa using this
set_option maxRecDepth 100000 in
set_option maxHeartbeats 2000000 in
theorem one_at (E : Nat → Addr) (x : UInt8) (hx : (Lit.int .i64 c.acc).wf = true) (hs : Sent 169 w E Er.egs) (h : CS w p k L S m l c) (hb : c.came ≤ 1000000000) (hn : (c.frm + c.all.length) / m.size ≠ l.length) :
    Calls Tryd.prog 65 #[.pointer (some ⟨k, 0, none⟩), .int .u8 (x.toNat : Int)] w fun e w' => ∃ m', e = .returned .nilIface ∧ CS w' p k L S m' l { c with all := c.all ++ [x], came := c.came + 1 } ∧ Only c.acc m m' ∧ Mod (L ++ k :: S) w w' := by
  have hf := h.f62
  have hll := h.ll
  have hcw := h.ok.cw
  have hpl := place_c h.C h.P c.all.length (by omega)
  have hs0 : 0 < m.size := by have := h.P.ok.s1; omega
  have hlt := Nat.mod_lt (c.frm + c.all.length) hs0
  have hkl : (c.frm + c.all.length) / m.size < l.length := by
    have hzn : c.all.length = 0 → c.frm = 0 := fun e => h.ok.z (List.length_eq_zero_iff.1 e)
    have hn' := hn
    rw [h.ok.ln] at hn' ⊢
    exact (need_at hs0 h.ok.fs hzn hn').2.1
  obtain ⟨b, hbl⟩ : ∃ b, l[(c.frm + c.all.length) / m.size]? = some b := ⟨_, List.getElem?_eq_getElem hkl⟩
  have how := h.ok.ow b (List.mem_of_getElem? hbl)
  have hpz := plc_zero h.ok.op how hlt
  obtain ⟨hok', hon⟩ := h.ok.behind h.P.ok x hn hbl
  have hset := fun W (hb : Below w.heap.size w W) => set_yes E c.acc b ((c.frm + c.all.length) % m.size : Nat) x hx W (h.P.below hb) (hs.keep hb) hpz
  obtain ⟨a, cap, hsl, k0, k1, k2, k3, k4, _⟩ := h.C.cells
  obtain ⟨g, off, cap', hv, hS, hrow⟩ := hsl.cell ((c.frm + c.all.length) / m.size) (by rw [nats_len]; exact hkl)
  have hrv : (nats l)[(c.frm + c.all.length) / m.size]'(by rw [nats_len]; exact hkl) = .int .i64 (b : Int) := by
    have e : l[(c.frm + c.all.length) / m.size] = b := by rw [List.getElem?_eq_getElem hkl] at hbl; simpa using hbl
    simp only [nats, i64s, List.getElem_map, e]
  rw [hrv] at hrow
  rw [nats_len] at hv
  simp only [Value.slice.injEq] at hv
  obtain ⟨rfl, _, rfl⟩ := hv
  have hsk : ∀ W, Below w.heap.size w W → W.cell? ⟨k, 0, none⟩ = some (.pointer (some ⟨p, 0, none⟩)) ∧ W.cell? ⟨k, 1, none⟩ = some (.int .i64 c.acc) ∧ W.cell? ⟨k, 2, none⟩ = some (.slice (some ⟨g, off, none⟩) l.length cap) ∧ W.cell? ⟨g, off + (c.frm + c.all.length) / m.size, none⟩ = some (.int .i64 (b : Int)) :=
    fun W hb => ⟨(hb.cell (lt_of_cell k0)).trans k0, (hb.cell (lt_of_cell k1)).trans k1, (hb.cell (lt_of_cell k2)).trans k2, (hb.cell (lt_of_cell hrow)).trans hrow⟩
  have hfin := fun W (hM : Mod L w W) (hP : PI W p L (put m c.acc b ((c.frm + c.all.length) % m.size : Nat) x)) => one_fin (h.C.mod hM h.d) hP h.d x hok'
  have hcl3 : ∀ W, Mod L w W → W.cell? ⟨k, 4, none⟩ = some (.int .i64 (c.all.length : Int)) ∧ W.cell? ⟨k, 5, none⟩ = some (.int .i64 (c.came : Int)) ∧ W.frozen? ⟨k, 4, none⟩ = false ∧ W.frozen? ⟨k, 5, none⟩ = false := fun W hM => by
    obtain ⟨_, _, _, _, _, _, _, p4, p5, _, pf⟩ := (h.C.mod hM h.d).cells
    exact ⟨p4, p5, pf 4, pf 5⟩
  have hkL : k ∉ L := h.d k (by simp)
  have hgL : g ∉ L := h.d g (by simp [hS])
  have hkg : k < w.heap.size := h.C.klt
  have hgg := lt_of_cell hrow
  simp only at hgg
  have hnk : (((c.frm + c.all.length) / m.size : Nat) : Int) ≠ (l.length : Int) := by exact_mod_cast hn
  have hnb : ((((c.frm + c.all.length) / m.size : Nat) : Int) == (l.length : Int)) = false := by simpa using hnk
  have hj0 : (0 : Int) ≤ (((c.frm + c.all.length) / m.size : Nat) : Int) := Int.natCast_nonneg _
  have hj1 : (((c.frm + c.all.length) / m.size : Nat) : Int) < (l.length : Int) := Int.ofNat_lt.2 hkl
  have hca : c.all.length ≤ 1000000000 := by omega
  generalize hmm : put m c.acc b ((c.frm + c.all.length) % m.size : Nat) x = mm at *
  generalize (c.frm + c.all.length) % m.size = t at *
  generalize (c.frm + c.all.length) / m.size = j at *
  obtain ⟨n, hn1⟩ : ∃ n, l.length = n := ⟨_, rfl⟩
  obtain ⟨many, hm1⟩ : ∃ n, c.all.length = n := ⟨_, rfl⟩
  obtain ⟨came, hm2⟩ : ∃ n, c.came = n := ⟨_, rfl⟩
  obtain ⟨acc, hm3⟩ : ∃ n, c.acc = n := ⟨_, rfl⟩
  obtain ⟨xn, hm4⟩ : ∃ n, x.toNat = n := ⟨_, rfl⟩
  rw [hn1] at k2 hsk hnb hj1 hll
  rw [hm1] at hpl k4 hcl3 hca
  rw [hm2] at hcl3 hb
  rw [hm3] at hset hsk k1
  rw [hm4] at hset ⊢
  have HPl := Lib.hid hpl
  have HSet := Lib.hid hset
  have HSk := Lib.hid hsk
  have HFin := Lib.hid hfin
  have HC3 := Lib.hid hcl3
  have HOn := Lib.hid hon
  have HK := Lib.hid (And.intro hkL (And.intro hgL (And.intro hkg hgg)))
  have HC := Lib.hid (And.intro k0 (And.intro k1 (And.intro k2 hrow)))
  have HE := Lib.hid (And.intro hm1 hm2)
  have HPost := Lib.hid (show ∀ W', CS W' p k L S mm l { c with all := c.all ++ [x], came := c.came + 1 } → Mod (L ++ k :: S) w W' → (∃ m', CS W' p k L S m' l { c with all := c.all ++ [x], came := c.came + 1 } ∧ Only c.acc m m' ∧ Mod (L ++ k :: S) w W') from fun W' h1 h2 => ⟨mm, h1, hon, h2⟩)
  clear hpl hset hsk hfin hon hok' h hs hrv hbl how hpz hsl hS hlt hkl hn hcw hnk hmm hm1 hm2 hm3 hm4 hn1 hx hkL hgL hkg hgg hrow k0 k1 k2 k3 hcl3
  go_enter Tryd.func65, Tryd.ntmps65
  go_wp2_with fail
  with_reducible refine HPl.out.mono ?_
  rintro e w2 ⟨rfl, hb2⟩
  obtain ⟨q0, q1, q2, q3⟩ := HSk.out w2 hb2
  have b2 : Below w.heap.size w w2.drew := hb2.drew
  clear k4
  go_wp2_with fail
  go_region_held3 (fun W => W.cell? ⟨k, 0, none⟩ = some (.pointer (some ⟨p, 0, none⟩)) ∧ W.cell? ⟨k, 1, none⟩ = some (.int .i64 acc) ∧ W.cell? ⟨k, 2, none⟩ = some (.slice (some ⟨g, off, none⟩) n cap) ∧ W.cell? ⟨g, off + j, none⟩ = some (.int .i64 (b : Int)))
    (first | exact ⟨(M3.cell HK.out.2.2.1 HK.out.1).trans HC.out.1, (M3.cell HK.out.2.2.1 HK.out.1).trans HC.out.2.1, (M3.cell HK.out.2.2.1 HK.out.1).trans HC.out.2.2.1, (M3.cell HK.out.2.2.2 HK.out.2.1).trans HC.out.2.2.2⟩ | exact HSk.out _ b2)
    ((go_at_call 31; (with_reducible refine (HSet.out _ b2).mono ?_); rintro e w3 ⟨rfl, P3, M3'⟩; have M3 := (Mod.of_below b2 L).trans M3' (fun _ h => .inl h)))
  obtain ⟨p4, p5, f4, f5⟩ := HC3.out w3 M3
  have H3 := Lib.hid (HFin.out w3 M3 P3)
  have HM3 := Lib.hid M3
  clear M3 M3' P3 hb2 b2 q0 q1 q2 q3 HFin HC3
  go_wp2
  go_ret
  obtain ⟨C3, N3⟩ := H3.out
  have e1 := HE.out.1
  subst e1
  have e2 := HE.out.2
  subst e2
  obtain ⟨m1, h1⟩ := HPost.out _ C3 ((HM3.out.sub (by simp +contextual)).trans N3 (fun y hy => .inl (by simp only [List.mem_singleton] at hy; simp [hy])))
  exact ⟨m1, rfl, h1⟩
end Ch
end Go.Proofs.YtpjimmdpcpcmoaaDoor
