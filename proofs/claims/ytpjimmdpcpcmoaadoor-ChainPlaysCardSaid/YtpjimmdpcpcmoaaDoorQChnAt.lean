import Derived.Test.YtpjimmdpcpcmoaaDoorQChnPush
import Derived.Test.YtpjimmdpcpcmoaaDoorQApp
/- (*chain.Chain).At and Bytes. Condition: the sentinels read as laid. -/
namespace Go.Proofs.YtpjimmdpcpcmoaaDoor
open Go Go.RowKit Kt
namespace Ch
open Po
variable {w w' w2 w3 W : World} {k p : Nat} {L L' L2 S S' M l l' : List Nat} {m m' m2 : Md} {c c' : Cn} {acc : Int} {frm many came went : Nat}
set_option maxRecDepth 100000 in
set_option maxHeartbeats 2000000 in
theorem at_no (E : Nat → Addr) (i : Int) (hs : Sent 169 w E Er.egs) (h : CS w p k L S m l c) (hi : i < 0 ∨ (c.all.length : Int) ≤ i) :
    Calls Tryd.prog 43 #[.pointer (some ⟨k, 0, none⟩), .int .i64 i] w fun e w' => e = .returned (.tuple #[.int .u8 0, ee E 1]) ∧ Below w.heap.size w w' := by
  have g1 : w.cell? ⟨0, 0, none⟩ = some (ee E 1) := sentc hs 1 (by decide) (by decide)
  obtain ⟨e1, h1⟩ : ∃ v, ee E 1 = v := ⟨_, rfl⟩
  rw [h1] at g1 ⊢
  obtain ⟨_, _, _, _, _, _, _, k4, _⟩ := h.C.cells
  generalize c.all.length = many at *
  clear h hs h1
  by_cases h0 : i < 0
  · have hd : decide (i < 0) = true := decide_eq_true h0
    clear hi
    go_enter Tryd.func43, Tryd.ntmps43
    go_wp2_with fail
    go_quiet (fail)
    go_wp2
    go_ret2
    exact ⟨rfl, below_drewN (Below.refl _ _) _⟩
  · have hd : decide (i < 0) = false := decide_eq_false h0
    have hm : (many : Int) ≤ i := by omega
    clear hi
    go_enter Tryd.func43, Tryd.ntmps43
    go_wp2_with fail
    go_quiet (fail)
    go_wp2
    go_ret2
    exact ⟨rfl, below_drewN (Below.refl _ _) _⟩
set_option maxRecDepth 100000 in
set_option maxHeartbeats 2000000 in
theorem at_yes (E : Nat → Addr) (i : Nat) (hx : (Lit.int .i64 c.acc).wf = true) (hs : Sent 169 w E Er.egs) (h : CS w p k L S m l c) (hb : c.all.length ≤ 1000000000) (hi : i < c.all.length) :
    Calls Tryd.prog 43 #[.pointer (some ⟨k, 0, none⟩), .int .i64 (i : Int)] w fun e w' => e = .returned (.tuple #[.int .u8 (c.all[i].toNat : Int), .nilIface]) ∧ Below w.heap.size w w' := by
  have hf := h.f62
  have hpl := place_c h.C h.P i (by omega)
  have hs0 : 0 < m.size := by have := h.P.ok.s1; omega
  have hlt := Nat.mod_lt (c.frm + i) hs0
  obtain ⟨b, hbl, hby⟩ := h.ok.byte i hi
  have hkl : (c.frm + i) / m.size < l.length := (List.getElem?_eq_some_iff.1 hbl).1
  have how := h.ok.ow b (List.mem_of_getElem? hbl)
  have hpz := plc_zero h.ok.op how hlt
  have hat := fun W (hb : Below w.heap.size w W) => Po.at_yes E c.acc b ((c.frm + i) % m.size : Nat) hx W (h.P.below hb) (hs.keep hb) hpz
  rw [get_byt hpz, hby] at hat
  obtain ⟨a, cap, hsl, k0, k1, k2, k3, k4, _⟩ := h.C.cells
  obtain ⟨g, off, cap', hv, hS, hrow⟩ := hsl.cell ((c.frm + i) / m.size) (by rw [nats_len]; exact hkl)
  have hrv : (nats l)[(c.frm + i) / m.size]'(by rw [nats_len]; exact hkl) = .int .i64 (b : Int) := by
    have e : l[(c.frm + i) / m.size] = b := by rw [List.getElem?_eq_getElem hkl] at hbl; simpa using hbl
    simp only [nats, i64s, List.getElem_map, e]
  rw [hrv] at hrow
  rw [nats_len] at hv
  simp only [Value.slice.injEq] at hv
  obtain ⟨rfl, _, rfl⟩ := hv
  have hsk : ∀ W, Below w.heap.size w W → W.cell? ⟨k, 0, none⟩ = some (.pointer (some ⟨p, 0, none⟩)) ∧ W.cell? ⟨k, 1, none⟩ = some (.int .i64 c.acc) ∧ W.cell? ⟨k, 2, none⟩ = some (.slice (some ⟨g, off, none⟩) l.length cap) ∧ W.cell? ⟨g, off + (c.frm + i) / m.size, none⟩ = some (.int .i64 (b : Int)) :=
    fun W hb => ⟨(hb.cell (lt_of_cell k0)).trans k0, (hb.cell (lt_of_cell k1)).trans k1, (hb.cell (lt_of_cell k2)).trans k2, (hb.cell (lt_of_cell hrow)).trans hrow⟩
  have hj0 : (0 : Int) ≤ (((c.frm + i) / m.size : Nat) : Int) := Int.natCast_nonneg _
  have hj1 : (((c.frm + i) / m.size : Nat) : Int) < (l.length : Int) := Int.ofNat_lt.2 hkl
  have hd : decide ((i : Int) < 0) = false := decide_eq_false (by omega)
  have hm : ¬ (c.all.length : Int) ≤ (i : Int) := by omega
  have hll := h.ll
  generalize (c.frm + i) % m.size = t at *
  generalize (c.frm + i) / m.size = j at *
  generalize c.all[i].toNat = xn at *
  obtain ⟨n, hn1⟩ : ∃ n, l.length = n := ⟨_, rfl⟩
  obtain ⟨many, hm1⟩ : ∃ n, c.all.length = n := ⟨_, rfl⟩
  obtain ⟨acc, hm3⟩ : ∃ n, c.acc = n := ⟨_, rfl⟩
  rw [hn1] at k2 hsk hj1 hll
  rw [hm1] at k4 hm hb
  rw [hm3] at hat hsk k1
  have HPl := Lib.hid hpl
  have HAt := Lib.hid hat
  have HSk := Lib.hid hsk
  clear hpl hat hsk h hs hi hf hlt hby hbl how hpz hsl hS hkl hn1 hm1 hm3 hrow k0 k1 k2 k3 hrv hx hs0
  go_enter Tryd.func43, Tryd.ntmps43
  go_wp2_with fail
  with_reducible refine HPl.out.mono ?_
  rintro e w2 ⟨rfl, hb2⟩
  have b2 : Below w.heap.size w w2.drew := hb2.drew
  clear k4
  go_wp2_with fail
  go_region_held3 (fun W => W.cell? ⟨k, 0, none⟩ = some (.pointer (some ⟨p, 0, none⟩)) ∧ W.cell? ⟨k, 1, none⟩ = some (.int .i64 acc) ∧ W.cell? ⟨k, 2, none⟩ = some (.slice (some ⟨g, off, none⟩) n cap) ∧ W.cell? ⟨g, off + j, none⟩ = some (.int .i64 (b : Int)))
    (first | exact HSk.out _ b3 | exact HSk.out _ b2)
    ((go_at_call 32; (with_reducible refine (HAt.out _ b2).mono ?_); rintro e w3 ⟨rfl, hb3⟩; have b3 := b2.trans (hb3.mono b2.size)))
  go_wp2
  go_ret2
  exact ⟨rfl, b3⟩
theorem at_c (E : Nat → Addr) (i : Int) (hx : (Lit.int .i64 c.acc).wf = true) (hs : Sent 169 w E Er.egs) (h : CS w p k L S m l c) (hb : c.all.length ≤ 1000000000) :
    Calls Tryd.prog 43 #[.pointer (some ⟨k, 0, none⟩), .int .i64 i] w fun e w' => e = .returned (.tuple #[.int .u8 ((if 0 ≤ i then c.all.getD i.toNat 0 else 0).toNat : Int), ee E (if 0 ≤ i ∧ i < (c.all.length : Int) then 0 else 1)]) ∧ Below w.heap.size w w' := by
  by_cases h0 : 0 ≤ i ∧ i < (c.all.length : Int)
  · obtain ⟨j, rfl⟩ : ∃ j : Nat, i = (j : Int) := ⟨i.toNat, by omega⟩
    have hj : j < c.all.length := by omega
    rw [if_pos h0.1, if_pos h0, Int.toNat_natCast, List.getD_eq_getElem?_getD, List.getElem?_eq_getElem hj]
    exact at_yes E j hx hs h hb hj
  · rw [if_neg h0]
    have hz : (if 0 ≤ i then c.all.getD i.toNat 0 else 0) = 0 := by
      split
      · rename_i h1
        rw [List.getD_eq_getElem?_getD, List.getElem?_eq_none (by omega)]
        rfl
      · rfl
    rw [hz]
    exact at_no E i hs h (by omega)
/-! ### Bytes -/
theorem elB : El Tryd.prog 54 5 (.int .u8 0) 1 1 := ⟨Tryd.underlying54, info_parts (by kernel_rfl), rfl, by decide⟩
set_option maxRecDepth 100000 in
set_option maxHeartbeats 2000000 in
theorem bytes_c (E : Nat → Addr) (hx : (Lit.int .i64 c.acc).wf = true) (hs : Sent 169 w E Er.egs) (h : CS w p k L S m l c) (hb : c.all.length ≤ 1000000) :
    Calls Tryd.prog 39 #[.pointer (some ⟨k, 0, none⟩)] w fun e w' => ∃ a cap, e = .returned (.slice a c.all.length cap) ∧ Rd w' a (u8s c.all) ∧ (a = none → cap = 0) ∧ Below w.heap.size w w' := by
  have hat := fun (j : Nat) (hj : j < c.all.length) W (hb : Below w.heap.size w W) => at_yes (w := W) E j hx (hs.keep hb) (h.below hb) (by omega) hj
  obtain ⟨_, _, _, _, _, _, _, k4, _⟩ := h.C.cells
  have happ : ∀ (j : Nat) (hj : j < c.all.length) (W : World) (a : Option Addr) (cap : Nat), W.ownsRow w.heap.size 5 1 (.slice a j cap) j (u8s (c.all.take j)) → Below w.heap.size w W → ∃ a' cap' w', (Builtin.append_ #[54, 54] 54 #[.slice a j cap, .slice (some ⟨W.heap.size, 0, none⟩) 1 1]).run Tryd.prog (W.alloc (.cells #[.int .u8 (c.all[j].toNat : Int)] 5 (0, 0))) = .ok (.slice a' (j + 1) cap') w' ∧
      w'.ownsRow w.heap.size 5 1 (.slice a' (j + 1) cap') (j + 1) (u8s (c.all.take (j + 1))) ∧ Below w.heap.size w w' := fun j hj W a cap hO hB => by
    have hB1 := hB.alloc hB.size (.cells #[.int .u8 (c.all[j].toNat : Int)] 5 (0, 0))
    have hO1 := own_keep hO ((Below.refl W.heap.size W).alloc (Nat.le_refl _) (.cells #[.int .u8 (c.all[j].toNat : Int)] 5 (0, 0)))
    obtain ⟨v', w', r, o, gr, _⟩ := elB.append w.heap.size (ty := 54) hO1 1 1 (news := [.int .u8 (c.all[j].toNat : Int)]) rfl (Rd.new W _ _ _ _ rfl) (fun h => by cases h) (by intro u hu; simp only [List.mem_singleton] at hu; subst hu; rfl) (by unfold maxLen; omega) (by omega) hB1.size
    obtain ⟨a', cap', rfl, _⟩ := rd_own o
    refine ⟨a', cap', w', r, ?_, hB1.grown gr hB1.size (fun q hq => (hO1.lt q hq).1)⟩
    rw [List.take_succ_eq_append_getElem hj]
    have e : u8s (c.all.take j ++ [c.all[j]]) = u8s (c.all.take j) ++ [.int .u8 (c.all[j].toNat : Int)] := by rw [u8s_append]; rfl
    rw [e]
    exact o
  have hfin : ∀ (n : Nat) (hn : c.all.length = n) (W : World) (a : Option Addr) (cap : Nat), W.ownsRow w.heap.size 5 1 (.slice a n cap) n (u8s (c.all.take n)) → Rd W a (u8s c.all) ∧ (a = none → cap = 0) := fun n hn W a cap hO => by
    subst hn
    rw [List.take_length] at hO
    exact ⟨Rd.own hO, fun e => by subst e; exact (own_none hO).1⟩
  have h0 := World.ownsRow_nil w w.heap.size 5 1
  generalize c.all = al at *
  obtain ⟨n, hn⟩ : ∃ n, al.length = n := ⟨_, rfl⟩
  have HAt := Lib.hid hat
  have HApp := Lib.hid happ
  have HFin := Lib.hid hfin
  have H0 := Lib.hid h0
  have HN := Lib.hid hn
  rw [hn] at k4 hb ⊢
  clear hat happ hfin h0 hn h hs hx
  go_enter Tryd.func39, Tryd.ntmps39
  go_wp2_with fail
  go_loopw [3, 4, 5, 6, 11] (fun s _ _ _ i W => ∃ j : Nat, j ≤ n ∧ i = .int .i64 (j : Int) ∧ (∃ a cap, s = .slice a j cap ∧ W.ownsRow w.heap.size 5 1 (.slice a j cap) j (u8s (al.take j))) ∧ Below w.heap.size w W) (fun _ _ _ _ i _ => n - (cj i).toNat)
  case atStart => exact ⟨0, Nat.zero_le _, rfl, ⟨none, 0, rfl, by simpa [u8s] using H0.out⟩, Below.refl _ _⟩
  case round =>
    obtain ⟨j, hj, rfl, ⟨a, cap, rfl, hO⟩, hB⟩ := hrel
    clear k4
    by_cases hjn : j < n
    · have hjl : j < al.length := by rw [HN.out]; exact hjn
      have ha := HAt.out j hjl wr hB
      have happ2 := fun W a cap => HApp.out j hjl W a cap
      generalize al[j].toNat = xn at *
      have HA := Lib.hid ha
      have HP := Lib.hid happ2
      have HO := Lib.hid (And.intro hO hB)
      clear ha happ2 hO hB HAt HApp H0
      go_wp2_with fail
      with_reducible refine HA.out.mono ?_
      rintro e w2 ⟨rfl, hb2⟩
      obtain ⟨a', cap', w4, hrun, hO4, hB4⟩ := HP.out w2 a cap (own_keep HO.out.1 hb2) (HO.out.2.trans (hb2.mono HO.out.2.size))
      have H4 := Lib.hid (And.intro hO4 hB4)
      clear hO4 hB4 HP HA hb2 HO
      go_wp2_with (at_builtin; (with_reducible apply wpList_append_run hrun); rfl; rfl; rfl; rfl; rfl)
      go_roundw
      case rel => exact ⟨j + 1, by omega, by go_num, ⟨a', cap', rfl, H4.out.1⟩, H4.out.2⟩
      case measure => simp [cj]; omega
    · obtain rfl : j = n := by omega
      have HF := Lib.hid (And.intro (HFin.out j HN.out wr a cap hO) hB)
      clear hO hB
      go_wp2
      go_ret
      exact ⟨a, cap, rfl, HF.out.1.1, HF.out.1.2, HF.out.2⟩
end Ch
end Go.Proofs.YtpjimmdpcpcmoaaDoor
