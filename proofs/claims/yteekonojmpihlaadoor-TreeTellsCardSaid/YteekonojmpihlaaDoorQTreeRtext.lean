import Derived.Test.YteekonojmpihlaaDoorQTreeRtl2
import Derived.Test.YteekonojmpihlaaDoorQTreeRtl3
import Derived.Test.YteekonojmpihlaaDoorQTreeRtl4
/- dofferref07.Text of a right tree. -/
namespace Go.Proofs.YteekonojmpihlaaDoor
open Go Go.RowKit Kt St Sp Bk
namespace Tr
theorem goods_take : ∀ {ks : List Nd} (j : Nat), goods ks → goods (ks.take j)
  | [], j, _ => by simp [goods]
  | _ :: _, 0, _ => trivial
  | _ :: _, j + 1, h => ⟨h.1, goods_take j h.2⟩
theorem szs_take_le : ∀ (ks : List Nd) (j : Nat), szs (ks.take j) ≤ szs ks
  | [], j => by simp
  | _ :: _, 0 => by simp [szs]
  | n :: r, j + 1 => by
    have := szs_take_le r j
    simp only [List.take_succ_cons, szs]
    omega
theorem join_le (p : Int) (sep : List UInt8) (ks : List Nd) (hg : goods ks) (hs : szs ks ≤ 600) (hsep : sep.length ≤ 1) (j : Nat) : (Lib.join (txts p (ks.take j)) sep).length ≤ 10000000 := by
  have h1 := join_len sep (txts p (ks.take j))
  have h2 := txts_len p (ks.take j) (goods_take j hg)
  have h3 := szs_take_le ks j
  have h4 := szs_len (ks.take j)
  have h5 : (txts p (ks.take j)).length = (ks.take j).length := by rw [txts_eq, List.length_map]
  have h6 : sep.length * (txts p (ks.take j)).length ≤ 1 * (txts p (ks.take j)).length := Nat.mul_le_mul_right _ hsep
  omega
set_option maxRecDepth 100000 in
set_option maxHeartbeats 4000000 in
/-- dofferref07.Text of an empty row. -/
theorem rtext_empty (x0 x1 x2 x3 : Nat) (a : Option Addr) (c : Nat) (mn mx : Int) (t : List UInt8) (w : World) :
    Calls Tryd.prog 59 #[.agg #[.int .i64 2, .int .u64 (x0 : Int), .int .u64 (x1 : Int), .int .u64 (x2 : Int), .int .u64 (x3 : Int), .slice a 0 c, .int .i64 mn, .int .i64 mx, .string (Str t)]] w
      fun e w' => e = .returned (.string (Str [40, 41])) ∧ Below w.heap.size w w' := by
  have hsz := heap_alloc_new w (.cells #[.int .i64 2, .int .u64 (x0 : Int), .int .u64 (x1 : Int), .int .u64 (x2 : Int), .int .u64 (x3 : Int), .slice a 0 c, .int .i64 mn, .int .i64 mx, .string (Str t)] 44)
  have hB := (Below.refl w.heap.size w).alloc (Nat.le_refl _) (.cells #[.int .i64 2, .int .u64 (x0 : Int), .int .u64 (x1 : Int), .int .u64 (x2 : Int), .int .u64 (x3 : Int), .slice a 0 c, .int .i64 mn, .int .i64 mx, .string (Str t)] 44)
  obtain ⟨z0, z1, z2, z3, z4, z5, z6, z7, z8⟩ := nd_cells hsz
  have HB := Lib.hid hB
  clear hB hsz
  go_enter Tryd.func59, Tryd.ntmps59
  go_wp2_with fail
  go_ret
  exact ⟨rfl, HB.out⟩
set_option maxRecDepth 100000 in
set_option maxHeartbeats 4000000 in
/-- dofferref07.Text of a name. -/
theorem rtext_name (x0 x1 x2 x3 : Nat) (a : Option Addr) (nl c : Nat) (mn mx : Int) (t : List UInt8) (w : World) (ht : t.length ≤ 1000000) :
    Calls Tryd.prog 59 #[.agg #[.int .i64 5, .int .u64 (x0 : Int), .int .u64 (x1 : Int), .int .u64 (x2 : Int), .int .u64 (x3 : Int), .slice a nl c, .int .i64 mn, .int .i64 mx, .string (Str t)]] w
      fun e w' => e = .returned (.string (Str (123 :: (t ++ [125])))) ∧ Below w.heap.size w w' := by
  have hsz := heap_alloc_new w (.cells #[.int .i64 5, .int .u64 (x0 : Int), .int .u64 (x1 : Int), .int .u64 (x2 : Int), .int .u64 (x3 : Int), .slice a nl c, .int .i64 mn, .int .i64 mx, .string (Str t)] 44)
  have hB := (Below.refl w.heap.size w).alloc (Nat.le_refl _) (.cells #[.int .i64 5, .int .u64 (x0 : Int), .int .u64 (x1 : Int), .int .u64 (x2 : Int), .int .u64 (x3 : Int), .slice a nl c, .int .i64 mn, .int .i64 mx, .string (Str t)] 44)
  obtain ⟨z0, z1, z2, z3, z4, z5, z6, z7, z8⟩ := nd_cells hsz
  obtain ⟨Y, hY⟩ : ∃ Y, 123 :: t = Y := ⟨_, rfl⟩
  obtain ⟨Z, hZ⟩ : ∃ Z, 123 :: (t ++ [125]) = Z := ⟨_, rfl⟩
  have a1 : ∀ w, (Op.stringOp .add ⟨#[123]⟩ (Str t)).run Tryd.prog w = .ok (.string (Str Y)) w := add_to (a := [123]) (by simpa using hY) (by rw [← hY]; simp; omega)
  have a2 : ∀ w, (Op.stringOp .add (Str Y) ⟨#[125]⟩).run Tryd.prog w = .ok (.string (Str Z)) w := add_to (b := [125]) (by rw [← hY, ← hZ]; rfl) (by rw [← hZ]; simp; omega)
  rw [hZ]
  have HB := Lib.hid hB
  clear hB hsz hY hZ ht
  go_enter Tryd.func59, Tryd.ntmps59
  go_wp2_with fail
  go_ret
  exact ⟨rfl, HB.out⟩
theorem one_kind {k : Int} {s : List Nat} {mn mx : Int} {t : List UInt8} {a : Option Addr} {c : Nat} {ks : List Nd} (h : one (.mk k s mn mx t a c ks) = true) :
    k = 1 ∨ k = 2 ∨ (k = 3 ∧ 2 ≤ ks.length) ∨ (k = 4 ∧ ks.length = 1 ∧ 0 ≤ mn ∧ mn ≤ 40 ∧ (mx = -1 ∨ (0 ≤ mx ∧ mx ≤ 40))) ∨ (k = 5 ∧ Ac.nm t = true) := by
  by_cases k1 : k = 1
  · exact .inl k1
  by_cases k2 : k = 2
  · exact .inr (.inl k2)
  by_cases k3 : k = 3
  · subst k3
    simp only [one, Nd.kind, Nd.kids, Nd.mn, Nd.mx, Nd.text, k1, k2, if_false, if_true, Bool.and_eq_true, decide_eq_true_eq] at h
    exact .inr (.inr (.inl ⟨rfl, of_decide_eq_true h.2⟩))
  by_cases k4 : k = 4
  · subst k4
    simp only [one, Nd.kind, Nd.kids, Nd.mn, Nd.mx, Nd.text, k1, k2, k3, if_false, if_true, Bool.and_eq_true, Bool.or_eq_true, decide_eq_true_eq] at h
    obtain ⟨_, h1, ⟨h2, h3⟩, h4⟩ := h
    refine .inr (.inr (.inr (.inl ⟨rfl, of_decide_eq_true h1, of_decide_eq_true h2, of_decide_eq_true h3, ?_⟩)))
    rcases h4 with h4 | ⟨h4, h5⟩
    · exact .inl (of_decide_eq_true h4)
    · have h2 := of_decide_eq_true h2
      have h4 := of_decide_eq_true h4
      exact .inr ⟨by omega, of_decide_eq_true h5⟩
  simp only [one, Nd.kind, Nd.kids, Nd.mn, Nd.mx, Nd.text, k1, k2, k3, k4, if_false, Bool.and_eq_true, decide_eq_true_eq] at h
  exact .inr (.inr (.inr (.inr ⟨of_decide_eq_true h.2.1.1, h.2.2⟩)))
/-- dofferref07.Text of a node, its kids' texts at hand. -/
theorem rtext_step (k : Int) (s : List Nat) (mn mx : Int) (t : List UInt8) (a : Option Addr) (c : Nat) (ks : List Nd) (w : World) (hg : good (.mk k s mn mx t a c ks)) (hw : wd (.mk k s mn mx t a c ks)) (hs : sz (.mk k s mn mx t a c ks) ≤ 600) (hIs : Is w.heap.size w (.mk k s mn mx t a c ks))
    (hx : ∀ n ∈ ks, ∀ W, Below w.heap.size w W → Calls Tryd.prog 59 #[nv n] W (TxP n W)) : Calls Tryd.prog 59 #[nv (.mk k s mn mx t a c ks)] w (TxP (.mk k s mn mx t a c ks) w) := by
  obtain ⟨x0, x1, x2, x3, hl⟩ := four' hIs.1
  subst hl
  have hsz : szs ks ≤ 600 := by simp only [sz] at hs; omega
  have hnl : ks.length ≤ 1000 := by have := szs_len ks; omega
  have hkl : ∀ n ∈ ks, (txt n).length ≤ 10000000 := fun n hn => by
    have := txt_len n (fun _ _ => trivial) (goods_mem hg.2 n hn)
    have := szs_mem hn
    omega
  rcases one_kind hg.1 with rfl | rfl | ⟨rfl, h2⟩ | ⟨rfl, h1, m0, m1, m2⟩ | ⟨rfl, hn⟩
  · refine (rtext_bytes x0 x1 x2 x3 a ks.length c mn mx t w hw.1).mono fun e w' h => ⟨?_, h.2⟩
    rw [h.1]
    simp only [txt, if_true]
  · by_cases h0 : ks = []
    · subst h0
      exact (rtext_empty x0 x1 x2 x3 a c mn mx t w).mono fun e w' h => ⟨h.1, h.2⟩
    · have hl0 : ks.length ≠ 0 := fun h => h0 (List.length_eq_zero_iff.1 h)
      refine (rtext_kind2 x0 x1 x2 x3 a ks c mn mx t w hIs h0 (join_le 2 [] ks hg.2 hsz (by simp)) hkl hnl hx).mono fun e w' h => ⟨?_, h.2⟩
      rw [h.1]
      simp only [txt]
      rw [if_neg (by decide), if_neg (by simp [hl0]), if_pos trivial]
  · have h0 : ks ≠ [] := by rintro rfl; simp at h2
    refine (rtext_kind3 x0 x1 x2 x3 a ks c mn mx t w hIs h0 (join_le 3 [124] ks hg.2 hsz (by simp)) hkl hnl hx).mono fun e w' h => ⟨?_, h.2⟩
    rw [h.1]
    simp only [txt]
    rw [if_neg (by decide), if_neg (by simp), if_neg (by decide), if_pos trivial]
  · have h0 : ks ≠ [] := by rintro rfl; simp at h1
    refine (rtext_kind4 x0 x1 x2 x3 a ks c mn mx t w hIs h0 (join_le 4 [] ks hg.2 hsz (by simp)) hkl hnl m0 m1 m2 hx).mono fun e w' h => ⟨?_, h.2⟩
    rw [h.1]
    simp only [txt]
    rw [if_neg (by decide), if_neg (by simp), if_neg (by decide), if_neg (by decide), if_pos trivial]
  · have hl := Ac.nm_len hn
    refine (rtext_name x0 x1 x2 x3 a ks.length c mn mx t w (by omega)).mono fun e w' h => ⟨?_, h.2⟩
    rw [h.1]
    simp only [txt]
    rw [if_neg (by decide), if_neg (by simp), if_neg (by decide), if_neg (by decide), if_neg (by decide)]
mutual
/-- dofferref07.Text of a right tree. -/
theorem rtext_all : ∀ (n : Nd), good n → wd n → sz n ≤ 600 → ∀ w, Is w.heap.size w n → Calls Tryd.prog 59 #[nv n] w (TxP n w)
  | .mk k s mn mx t a c ks, hg, hw, hs, w, hIs =>
    rtext_step k s mn mx t a c ks w hg hw hs hIs (rtexts_all ks hg.2 hw.2 (by simp only [sz] at hs; omega) w hIs.2.2.2.2.2.2)
theorem rtexts_all : ∀ (ks : List Nd), goods ks → wds ks → szs ks ≤ 600 → ∀ w, IsAll w.heap.size w ks → ∀ n ∈ ks, ∀ W, Below w.heap.size w W → Calls Tryd.prog 59 #[nv n] W (TxP n W)
  | [], _, _, _, _, _, n, hn, _, _ => by cases hn
  | m :: r, hg, hw, hs, w, hIs, n, hn, W, hb => by
    simp only [szs] at hs
    by_cases h : n = m
    · rw [h]
      exact rtext_all m hg.1 hw.1 (by omega) W (Is.mono hb.size (Is.below hb hIs.1))
    · exact rtexts_all r hg.2 hw.2 (by omega) w hIs.2 n (by rcases List.mem_cons.1 hn with h1 | h1; exact absurd h1 h; exact h1) W hb
end
end Tr
end Go.Proofs.YteekonojmpihlaaDoor
