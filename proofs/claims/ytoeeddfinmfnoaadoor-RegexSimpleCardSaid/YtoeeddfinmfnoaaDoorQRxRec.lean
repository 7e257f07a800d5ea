import Derived.Test.YtoeeddfinmfnoaaDoorQRxPiece
import Derived.Test.YtoeeddfinmfnoaaDoorQApp
/- A list of trees that grows, while regex's reader is at work. -/
namespace Go.Proofs.YtoeeddfinmfnoaaDoor
namespace Kt
end Kt
namespace Sp
end Sp
namespace St
end St
namespace Bk
end Bk
namespace Bo
end Bo
namespace Tr
end Tr
open Go Go.RowKit Kt Sp St Bk Bo Tr
namespace Rx
variable {w0 W V V' : World} {p R n c : Nat} {a : Option Addr} {s : ByteArray} {A : Nat → Addr} {st st' : S} {ms : List Nd}
/-- The list's row is the call's own; its trees lie elsewhere. -/
structure Lr (W V : World) (p R : Nat) (a : Option Addr) (n c : Nat) (ms : List Nd) : Prop where
  len : ms.length = n
  own : V.ownsRow (R + 1) 27 9 (.slice a n c) n (ms.flatMap cells)
  kid : ∀ x ∈ ms, Tr.Is V.heap.size V x ∧ Bl (fun q => W.heap.size ≤ q ∧ q ≠ R ∧ (Value.slice a n c).ownBlock ≠ some q) x
  hR : W.heap.size ≤ R
  hp : p < W.heap.size
theorem Lr.olt (h : Lr W V p R a n c ms) : ∀ k, (Value.slice a n c).ownBlock = some k → R < k ∧ k < V.heap.size := fun k hk => by have := h.own.lt k hk; omega
theorem Lr.mod (h : Lr W V p R a n c ms) (hM : Mod [p] V V') : Lr W V' p R a n c ms := by
  have h1 := h.hR
  have h2 := h.hp
  exact ⟨h.len, own_mod h.own hM (fun k hk => by have := (h.olt k hk).1; simp; omega), fun x hx => ⟨Is.mono hM.size (Is.modB hM (h.kid x hx).1 ((h.kid x hx).2.mono fun q hq => by simp; omega)), (h.kid x hx).2⟩, h.hR, h.hp⟩
theorem Lr.below (h : Lr W V p R a n c ms) (hb : Below V.heap.size V V') : Lr W V' p R a n c ms := h.mod (Mod.of_below hb _)
theorem Lr.nil (V : World) (hR : W.heap.size ≤ R) (hp : p < W.heap.size) : Lr W V p R none 0 0 [] := ⟨rfl, ⟨rfl, .inl ⟨rfl, rfl⟩⟩, (fun x hx => by cases hx), hR, hp⟩
/-- One tree more. -/
theorem Lr.push (h : Lr W V p R a n c ms) (hn : n ≤ 1000000) (hRV : R < V.heap.size) (m : Nd) (hm : Tr.Is V.heap.size V m) (hmb : Bl (fun q => W.heap.size ≤ q ∧ q ≠ R ∧ (Value.slice a n c).ownBlock ≠ some q) m) :
    ∃ g cap w2, (Builtin.append_ #[25, 25] 25 #[.slice a n c, .slice (some ⟨V.heap.size, 0, none⟩) 1 1]).run Tryd.prog (V.alloc (.cells (cells m).toArray 27)) = .ok (.slice (some ⟨g, 0, none⟩) (n + 1) cap) w2 ∧
      Lr W w2 p R (some ⟨g, 0, none⟩) (n + 1) cap (ms ++ [m]) ∧ Mod (Value.slice a n c).ownBlock.toList V w2 := by
  have b1 : Below V.heap.size V (V.alloc (.cells (cells m).toArray 27)) := (Below.refl _ _).alloc (Nat.le_refl _) _
  obtain ⟨W1, hW1⟩ : ∃ W1, V.alloc (.cells (cells m).toArray 27) = W1 := ⟨_, rfl⟩
  have hz1 : W1.heap.size = V.heap.size + 1 := by rw [← hW1]; simp
  have hrn : Rd W1 (some ⟨V.heap.size, 0, none⟩) (cells m) := by rw [← hW1]; exact Rd.new _ _ _ _ _ rfl
  rw [hW1] at b1
  rw [hW1]
  have h1 := h.below b1
  have hlen : (cells m).length = 1 * 9 := by rw [cells_len m hm.len]
  obtain ⟨g, cap, w2, hrun, own2, gr2, hlie, hg2⟩ := elNd.lies (R + 1) (ty := 25) h1.own 1 1 hlen (by decide) hrn (cells_one m) (by unfold maxLen; omega) (Nat.le_trans (Nat.mul_le_mul (show n + 1 ≤ 1000001 by omega) (show 96 ≤ 1000 by decide)) (by decide)) (by omega)
  have hM2 : Mod (Value.slice a n c).ownBlock.toList V w2 := (Mod.of_below b1 _).grown gr2 (fun q hq => .inl (by simp [hq]))
  refine ⟨g, cap, w2, hrun, ⟨by simp [h.len], ?_, fun x hx => ?_, h.hR, h.hp⟩, hM2⟩
  · rw [List.flatMap_append, show [m].flatMap cells = cells m by simp]
    exact own2
  · have key : ∀ y, Tr.Is V.heap.size V y → Bl (fun q => W.heap.size ≤ q ∧ q ≠ R ∧ (Value.slice a n c).ownBlock ≠ some q) y → Tr.Is w2.heap.size w2 y ∧ Bl (fun q => W.heap.size ≤ q ∧ q ≠ R ∧ (Value.slice (some ⟨g, 0, none⟩) (n + 1) cap).ownBlock ≠ some q) y := fun y hy hb => by
      refine ⟨Is.mono hM2.size (Is.modB hM2 hy (hb.mono fun q hq hm => hq.2.2 (by simpa using hm))), Bl.both hb (Is.bl hy) fun q hq hq2 => ⟨hq.1, hq.2.1, fun e => ?_⟩⟩
      have e1 : g = q := by simpa [Value.ownBlock] using e
      rcases hlie with h6 | h6
      · exact hq.2.2 (by rw [← e1]; exact h6)
      · omega
    rcases List.mem_append.1 hx with hx | hx
    · exact key x (h.kid x hx).1 (h.kid x hx).2
    · have e : x = m := by simpa using hx
      rw [e]
      exact key m hm hmb
end Rx
end Go.Proofs.YtoeeddfinmfnoaaDoor

/- The walks of package regex's reader: branch. -/
namespace Go.Proofs.YtoeeddfinmfnoaaDoor
open Go Go.RowKit Kt Sp St Bk Bo Tr
namespace Rx
variable {w0 W V V' : World} {p R n c : Nat} {a : Option Addr} {s : ByteArray} {A : Nat → Addr} {st st' : S} {ms : List Nd}
/-- The list as a node's kids. -/
theorem Lr.node (h : Lr W V p R a n c ms) (k : Int) : Tr.Is V.heap.size V (.mk k [0, 0, 0, 0] 0 0 [] a c ms) ∧ Bl (fun q => W.heap.size ≤ q ∧ q ≠ R) (.mk k [0, 0, 0, 0] 0 0 [] a c ms) := by
  obtain ⟨a', c', he, h1, h2, h3, h4⟩ := rd_own h.own
  simp only [Value.slice.injEq] at he
  obtain ⟨rfl, _, rfl⟩ := he
  have hown := h.own
  have hR := h.hR
  refine ⟨⟨rfl, by rw [h.len]; exact h1, h2, fun hn => ?_, h3, fun q hp hne => ?_, IsAll.of fun x hx => (h.kid x hx).1⟩, ⟨fun q hp _ => ?_, Bls.of fun x hx => (h.kid x hx).2.mono fun q hq => ⟨hq.1, hq.2.1⟩⟩⟩
  · subst hn; exact (own_none hown).1
  · obtain ⟨q', hq, hl⟩ := h3.lt hne
    rw [hp] at hq
    cases hq
    exact hl
  · have := (h4 q hp).1
    exact ⟨by omega, by omega⟩
/-- The list's only tree. -/
theorem Lr.first {m : Nd} (h : Lr W V p R a 1 c [m]) : ∃ (k mn mx : Int) (x0 x1 x2 x3 nl cc g : Nat) (aa : Option Addr) (t : List UInt8) (ks : List Nd), m = .mk k [x0, x1, x2, x3] mn mx t aa cc ks ∧ ks.length = nl ∧ a = some ⟨g, 0, none⟩ ∧
    (V.cell? ⟨g, 0, none⟩ = some (.int .i64 k) ∧ V.cell? ⟨g, 1, none⟩ = some (.int .u64 (x0 : Int)) ∧ V.cell? ⟨g, 2, none⟩ = some (.int .u64 (x1 : Int)) ∧ V.cell? ⟨g, 3, none⟩ = some (.int .u64 (x2 : Int)) ∧ V.cell? ⟨g, 4, none⟩ = some (.int .u64 (x3 : Int)) ∧
    V.cell? ⟨g, 5, none⟩ = some (.slice aa nl cc) ∧ V.cell? ⟨g, 6, none⟩ = some (.int .i64 mn) ∧ V.cell? ⟨g, 7, none⟩ = some (.int .i64 mx) ∧ V.cell? ⟨g, 8, none⟩ = some (.string (Str t))) := by
  obtain ⟨x0, x1, x2, x3, hs4⟩ := four (h.kid m (by simp)).1.len
  obtain ⟨a', c', he, h1, h2, h3, h4⟩ := rd_own h.own
  simp only [Value.slice.injEq] at he
  obtain ⟨rfl, _, rfl⟩ := he
  obtain ⟨k, sx, mn, mx, t, aa, cc, ks⟩ := m
  simp only [Nd.set] at hs4
  subst hs4
  have e : ([Nd.mk k [x0, x1, x2, x3] mn mx t aa cc ks].flatMap cells) = [.int .i64 k, .int .u64 (x0 : Int), .int .u64 (x1 : Int), .int .u64 (x2 : Int), .int .u64 (x3 : Int), .slice aa ks.length cc, .int .i64 mn, .int .i64 mx, .string (Str t)] := rfl
  rw [e] at h3
  obtain ⟨g, o, ha, hc0⟩ := h3 0 _ rfl
  have h0 := h4 ⟨g, o, none⟩ ha
  obtain ⟨_, ho, _⟩ := h0
  simp only at ho
  subst ho
  subst ha
  have hc : ∀ (i : Nat) (x : Value), [Value.int .i64 k, .int .u64 (x0 : Int), .int .u64 (x1 : Int), .int .u64 (x2 : Int), .int .u64 (x3 : Int), .slice aa ks.length cc, .int .i64 mn, .int .i64 mx, .string (Str t)][i]? = some x → V.cell? ⟨g, i, none⟩ = some x := fun i x hi => by
    obtain ⟨g', o', ha', hc'⟩ := h3 i x hi
    cases ha'
    simpa using hc'
  exact ⟨k, mn, mx, x0, x1, x2, x3, ks.length, cc, g, aa, t, ks, rfl, rfl, rfl, hc 0 _ rfl, hc 1 _ rfl, hc 2 _ rfl, hc 3 _ rfl, hc 4 _ rfl, hc 5 _ rfl, hc 6 _ rfl, hc 7 _ rfl, hc 8 _ rfl⟩
theorem brL_go {ex : S → Nd × S} {t : List UInt8} {k : Nat} {s : S} {l : List Nd} (h : (more t s && !on t s [124, 41]) = true) : brL ex t (k + 1) s l = brL ex t k (pce ex t s).2 (l ++ [(pce ex t s).1]) := by
  conv => lhs; unfold brL
  rw [if_pos h]
theorem brL_end {ex : S → Nd × S} {t : List UInt8} {k : Nat} {s : S} {l : List Nd} (h : (more t s && !on t s [124, 41]) = false) : brL ex t (k + 1) s l = (l, s) := by
  conv => lhs; unfold brL
  rw [if_neg (by rw [h]; simp)]
set_option maxRecDepth 100000 in
set_option maxHeartbeats 8000000 in
theorem branch_c (hsz : s.size ≤ 900000) (ex : S → Nd × S) (hadv : ∀ s', s'.pos ≤ s.data.toList.length → Adv s.data.toList s' (ex s').2) (hle : st.pos ≤ s.size)
    (hpc : ∀ V st', Rr w0 V p s A st' → st.pos ≤ st'.pos → st'.err = 0 ∧ st'.pos < s.size → Calls Tryd.prog 105 #[.pointer (some ⟨p, 0, none⟩)] V (NdP w0 V p s A (pce ex s.data.toList st'))) (h : Rr w0 W p s A st) : Calls Tryd.prog 73 #[.pointer (some ⟨p, 0, none⟩)] W (NdP w0 W p s A (brn ex s.data.toList st)) := by
  have hbrn : brn ex s.data.toList st = (joinN 2 (brL ex s.data.toList (s.size + 1) st []).1, (brL ex s.data.toList (s.size + 1) st []).2) := by unfold brn; rw [size_list]
  rw [hbrn]
  have a1 := At.new h
  obtain ⟨W1, hW1⟩ : ∃ W1, W.alloc Z9 = W1 := ⟨_, rfl⟩
  rw [hW1] at a1
  have HW1 := Lib.hid (show W.alloc (.cells #[.int .i64 0, .int .u64 0, .int .u64 0, .int .u64 0, .int .u64 0, .slice none 0 0, .int .i64 0, .int .i64 0, .string ⟨#[]⟩] 27) = W1 from hW1)
  obtain ⟨R, hR⟩ : ∃ R, W.heap.size = R := ⟨_, rfl⟩
  have hpw := h.blk
  have L1 : Lr W W1 p R none 0 0 [] := Lr.nil W1 (Nat.le_of_eq hR) hpw
  rw [hR] at a1
  have HR := Lib.hid hR
  have H1 := Lib.hid a1
  have HL1 := Lib.hid L1
  have HPc := Lib.hid hpc
  have HAdv := Lib.hid hadv
  have HLe := Lib.hid hle
  have HMo : Hid (∀ V st', Rr w0 V p s A st' → Calls Tryd.prog 48 #[.pointer (some ⟨p, 0, none⟩)] V fun r w' => r = .returned (.bool (more s.data.toList st')) ∧ ∃ n, w' = V.drewN n) := Lib.hid (fun V st' h' => more_c h')
  have HOn : Hid (∀ V st', Rr w0 V p s A st' → Calls Tryd.prog 104 #[.pointer (some ⟨p, 0, none⟩), .string ⟨#[124, 41]⟩] V fun r w' => r = .returned (.bool (on s.data.toList st' [124, 41])) ∧ ∃ n, w' = V.drewN n) := Lib.hid (fun V st' h' => on_l [124, 41] _ rfl (by omega) V h')
  have hsl := size_list s
  obtain ⟨t, ht⟩ : ∃ t, s.data.toList = t := ⟨_, rfl⟩
  rw [ht] at HMo HOn HPc HAdv hsl ⊢
  have HSl := Lib.hid hsl
  clear h a1 hW1 hpc hadv hle hbrn ht hsl L1 hpw
  go_enter Tryd.func73, Tryd.ntmps73
  go_upto_region 1 with (fail)
  rw [HW1.out]
  try rw [HR.out]
  clear hR
  go_wp2
  go_loopw [3] (fun v3 V => ∃ (k : Nat) (st' : S) (a : Option Addr) (n c : Nat) (ms : List Nd), v3 = .slice a n c ∧ At w0 W V p s A st' R ∧ Lr W V p R a n c ms ∧ st.pos ≤ st'.pos + (if st'.err = 0 then 0 else s.size) ∧ st'.pos ≤ s.size ∧ (st'.err = 0 → s.size - st'.pos < k + 1) ∧ n + k = s.size ∧ brL ex t (s.size + 1) st [] = brL ex t (k + 1) st' (ms.map er)) (fun _ V => left s.size V p)
  case atStart => exact ⟨s.size, st, none, 0, 0, [], rfl, H1.out, HL1.out, Nat.le_add_right _ _, HLe.out, fun _ => by omega, by omega, rfl⟩
  case round =>
    obtain ⟨k, st', a, n, c, ms, rfl, ha, hl, hlo, hle, hk, hnk, hbr⟩ := hrel
    have HP := Lib.hid (And.intro ha hl)
    have HBr := Lib.hid hbr
    have HK := Lib.hid (And.intro hlo (And.intro hle (And.intro hk hnk)))
    obtain ⟨G, hG⟩ : ∃ G, (more t st' && !on t st' [124, 41]) = G := ⟨_, rfl⟩
    have HG := Lib.hid hG
    clear ha hl hbr hlo hle hk hnk H1 HL1
    obtain ⟨wo, hwo⟩ : ∃ x, x = wr := ⟨_, rfl⟩
    subst hwo
    go_upto_region 2 with (fail)
    go_cut [10] (fun v V => v = .bool G ∧ ∃ q, V = wo.drewN q)
    case first =>
      have hmo := HMo.out _ _ HP.out.1.rr
      obtain ⟨M, hM⟩ : ∃ M, more t st' = M := ⟨_, rfl⟩
      rw [hM] at hmo hG
      have HM := Lib.hid hmo
      cases M with
      | false =>
        rw [Bool.false_and] at hG
        subst hG
        clear hM hmo
        go_wp2_with fail
        refine HM.out.mono ?_
        rintro _ w5 ⟨rfl, q, rfl⟩
        go_wp2
        go_meet
        exact ⟨rfl, q, rfl⟩
      | true =>
        rw [Bool.true_and] at hG
        clear hM hmo
        go_wp2_with fail
        refine HM.out.mono ?_
        rintro _ w5 ⟨rfl, q, rfl⟩
        have HO := Lib.hid (HOn.out _ _ (HP.out.1.drewN q).rr)
        obtain ⟨O, hO⟩ : ∃ O, on t st' [124, 41] = O := ⟨_, rfl⟩
        rw [hO] at HO hG
        clear hO
        go_wp2_with fail
        refine HO.out.mono ?_
        rintro _ w6 ⟨rfl, q2, rfl⟩
        subst hG
        go_wp2
        go_meet
        exact ⟨rfl, q + q2, by first | rfl | (rw [World.drewN_drewN]; done) | simp⟩
    case rest =>
      obtain ⟨rfl, q, hwc⟩ := hcut
      have HT0 : Hid (At w0 W wc p s A st' R ∧ Lr W wc p R a n c ms) := Lib.hid (by rw [hwc]; exact ⟨HP.out.1.drewN q, HP.out.2.below (below_drewN (Below.refl _ _) q)⟩)
      clear hwc hG
      cases G with
      | false =>
        have HEnd := Lib.hid (HBr.out.trans (brL_end HG.out))
        by_cases h1 : n = 1
        · as_aux_lemma =>
            subst h1
            obtain ⟨m0, rfl⟩ : ∃ m0, ms = [m0] := List.length_eq_one_iff.1 HT0.out.2.len
            obtain ⟨k', mn, mx, x0, x1, x2, x3, nl, cc, g, aa, tx, ks, rfl, hnl, rfl, e0, e1, e2, e3, e4, e5, e6, e7, e8⟩ := HT0.out.2.first
            have hkid := HT0.out.2.kid (.mk k' [x0, x1, x2, x3] mn mx tx aa cc ks) (by simp)
            have hf := HT0.out.1.fin hnl hkid.1 (hkid.2.mono fun q hq => ⟨hq.1, hq.2.1⟩)
            have hres : (joinN 2 (brL ex t (s.size + 1) st []).1, (brL ex t (s.size + 1) st []).2) = (er (.mk k' [x0, x1, x2, x3] mn mx tx aa cc ks), st') := by rw [HEnd.out]; rfl
            have HRes := Lib.hid hres
            have HPb := Lib.hid hf.1
            have HFin := Lib.hid hf.2
            have HZ8 := Lib.hid HT0.out.1.z
            clear hf hkid hres
            go_upto_region 5 with (fail)
            go_step
            go_step
            go_step
            go_step
            go_step
            go_step
            go_step
            go_step
            go_step
            go_step
            go_step
            refine wp_store9 rfl rfl rfl rfl HZ8.out ?_
            clear e0 e1 e2 e3 e4 e5 e6 e7 e8
            go_wp2
            ((try simp only [Exit.inBlock, Exit.then]); refine bodyPost_ret (results_cell_row rfl _ _ (R) 27 _ (0, 0) _ rfl (HPb.out) Tryd.underlying27 rfl ?hi1) rfl ?_; (case hi1 => kernel_rfl))
            rw [HRes.out]
            exact HFin.out
        · as_aux_lemma =>
            have h1b : ((n : Int) == 1) = false := by simp; omega
            have h1d : decide ((n : Int) = 1) = false := by simp; omega
            have h1n : decide (n = 1) = false := by simpa using h1
            have hnd := HT0.out.2.node 2
            have hf := HT0.out.1.fin (x0 := 0) (x1 := 0) (x2 := 0) (x3 := 0) (t := []) HT0.out.2.len hnd.1 hnd.2
            have hres : (joinN 2 (brL ex t (s.size + 1) st []).1, (brL ex t (s.size + 1) st []).2) = (er (.mk 2 [0, 0, 0, 0] 0 0 [] a c ms), st') := by
              rw [HEnd.out]
              simp only
              unfold joinN
              rw [if_neg (by rw [List.length_map, HT0.out.2.len]; exact h1)]
              simp only [er, ers_map]
            have HRes := Lib.hid hres
            have HPb := Lib.hid hf.1
            have HFin := Lib.hid hf.2
            have HZ8 := Lib.hid HT0.out.1.z
            clear hf hnd hres
            go_upto_region 6 with (fail)
            go_step
            go_step
            go_step
            go_step
            go_step
            go_step
            go_step
            go_step
            refine wp_store9 (x0 := 0) (x1 := 0) (x2 := 0) (x3 := 0) (t := []) rfl rfl rfl rfl HZ8.out ?_
            go_wp2
            ((try simp only [Exit.inBlock, Exit.then]); refine bodyPost_ret (results_cell_row rfl _ _ (R) 27 _ (0, 0) _ rfl (HPb.out) Tryd.underlying27 rfl ?hi2) rfl ?_; (case hi2 => kernel_rfl))
            rw [HRes.out]
            exact HFin.out
      | true =>
        as_aux_lemma =>
          have hmr := more_lt (Bool.and_eq_true_iff.1 HG.out).1
          rw [← HSl.out] at hmr
          have hst := HK.out.1
          rw [if_pos hmr.1] at hst
          have hadv := pce_adv (t := t) (s := st') HAdv.out (by rw [← HSl.out]; exact hmr)
          have hkp := HK.out.2.2.1 hmr.1
          obtain ⟨kk, rfl⟩ : ∃ kk, k = kk + 1 := ⟨k - 1, by omega⟩
          have hcall := HPc.out wc st' HT0.out.1.rr (by omega) hmr
          obtain ⟨n2, s2, hx2⟩ : ∃ n2 s2, pce ex t st' = (n2, s2) := ⟨_, _, rfl⟩
          have hgo := HBr.out.trans (brL_go (ex := ex) (k := kk + 1) HG.out)
          rw [hx2] at hcall hadv hgo
          have HC := Lib.hid hcall
          have HGo := Lib.hid hgo
          have hal := hadv.le
          rw [← HSl.out] at hal
          have HNum : Hid (s2.pos ≤ s.size ∧ (s2.err = 0 → st'.pos < s2.pos)) := Lib.hid ⟨hal, fun he => (hadv.on he).2⟩
          have HNum2 := Lib.hid (And.intro hmr (And.intro hst hkp))
          clear hmr hst hadv hkp hcall hx2 hgo hal
          go_wp2_with fail
          refine HC.out.mono ?_
          rintro _ w5 ⟨m, rfl, hme, hI, hb, hr, hm⟩
          have h5 := HT0.out.1.step hr hm
          have l5 := HT0.out.2.mod hm
          have hlt := HT0.out.1.lt
          obtain ⟨g, cap, w6, run, hL6, hM6⟩ := l5.push (by have := HK.out.2.2.2; omega) h5.lt.2.2 m hI (hb.mono fun q (hq : _ ≤ q) => ⟨by omega, by omega, fun e => by have := (HT0.out.2.olt q e).2; omega⟩)
          have h6 := h5.other hM6 (fun x hx => by
            have hx2 : (Value.slice a n c).ownBlock = some x := by simpa using hx
            have := l5.olt x hx2
            have hq1 := h5.hR
            have hq2 := h5.hpw
            omega)
          obtain ⟨x0, x1, x2, x3, hs4⟩ := four hI.len
          obtain ⟨k', sx, mn, mx, tx, aa, cc, ks⟩ := m
          simp only [Nd.set] at hs4
          subst hs4
          obtain ⟨nl, hnl⟩ : ∃ nl, ks.length = nl := ⟨_, rfl⟩
          have hnv : nv (.mk k' [x0, x1, x2, x3] mn mx tx aa cc ks) = .agg #[.int .i64 k', .int .u64 (x0 : Int), .int .u64 (x1 : Int), .int .u64 (x2 : Int), .int .u64 (x3 : Int), .slice aa nl cc, .int .i64 mn, .int .i64 mx, .string (Str tx)] := by rw [← hnl]; rfl
          have hcl : (cells (.mk k' [x0, x1, x2, x3] mn mx tx aa cc ks)).toArray = #[.int .i64 k', .int .u64 (x0 : Int), .int .u64 (x1 : Int), .int .u64 (x2 : Int), .int .u64 (x3 : Int), .slice aa nl cc, .int .i64 mn, .int .i64 mx, .string (Str tx)] := by rw [← hnl]; rfl
          rw [hnv]
          rw [hcl] at run
          have H6 := Lib.hid (And.intro h6 (And.intro hL6 hr))
          have HMe := Lib.hid hme
          clear h5 l5 hlt hL6 hM6 h6 hnv hcl hI hb hr hm hme hnl
          dsimp only
          go_step
          go_step
          refine wp_build_run (build_nd _ _ _ _ _ _ _ _ _ _ _ _) rfl rfl ?_
          go_step
          (at_builtin; (with_reducible apply wpList_append_run run); rfl; rfl; rfl; rfl; rfl)
          clear run
          go_wp2
          go_roundw
          case rel =>
            refine ⟨kk, s2, some ⟨g, 0, none⟩, n + 1, cap, ms ++ [.mk k' [x0, x1, x2, x3] mn mx tx aa cc ks], rfl, H6.out.1, H6.out.2.1, ?_, HNum.out.1, fun he => ?_, ?_, ?_⟩
            · have h1 := HNum2.out
              have h2 := HNum.out
              have h3 := HLe.out
              by_cases he : s2.err = 0
              · rw [if_pos he]
                have := h2.2 he
                omega
              · rw [if_neg he]
                omega
            · have h1 := HNum2.out
              have h2 := HNum.out.2 he
              omega
            · have := HK.out.2.2.2
              omega
            · rw [HGo.out, List.map_append, List.map_cons, List.map_nil, HMe.out]
          case measure => exact left_lt HP.out.1.rr H6.out.1.rr HNum2.out.1.2 (fun he => ⟨HNum2.out.1.1, HNum.out.2 he⟩) HNum2.out.1.1
end Rx
end Go.Proofs.YtoeeddfinmfnoaaDoor

/- The walks of package regex's reader: expression. -/
namespace Go.Proofs.YtoeeddfinmfnoaaDoor
open Go Go.RowKit Kt Sp St Bk Bo Tr
namespace Rx
variable {w0 W V V' : World} {p R n c : Nat} {a : Option Addr} {s : ByteArray} {A : Nat → Addr} {st st' : S} {ms : List Nd}
theorem Lr.one {m : Nd} (hR : W.heap.size ≤ R) (hp : p < W.heap.size) (hRV : R < V.heap.size) (hm : Tr.Is V.heap.size V m) (hmb : Bl (fun q => W.heap.size ≤ q ∧ q ≠ R) m) : Lr W (V.alloc (.cells (cells m).toArray 27)) p R (some ⟨V.heap.size, 0, none⟩) 1 1 [m] := by
  have b1 : Below V.heap.size V (V.alloc (.cells (cells m).toArray 27)) := (Below.refl _ _).alloc (Nat.le_refl _) _
  have ho := own_new V (R + 1) 27 9 1 (cells m).toArray (by omega) (by decide) (by rw [List.size_toArray, cells_len m hm.len])
  refine ⟨rfl, by rw [show [m].flatMap cells = (cells m).toArray.toList by simp]; exact ho, fun x hx => ?_, hR, hp⟩
  have e : x = m := by simpa using hx
  rw [e]
  refine ⟨Is.mono b1.size (Is.below b1 hm), Bl.both hmb (Is.bl hm) fun q hq hq2 => ⟨hq.1, hq.2, fun e => ?_⟩⟩
  have e1 : V.heap.size = q := by simpa [Value.ownBlock] using e
  omega
theorem exL_go {ex : S → Nd × S} {t : List UInt8} {k : Nat} {s : S} {l : List Nd} (h : on t s [124] = true) : exL ex t (k + 1) s l = exL ex t k (brn ex t (nx s)).2 (l ++ [(brn ex t (nx s)).1]) := by
  conv => lhs; unfold exL
  rw [if_pos h]
theorem exL_end {ex : S → Nd × S} {t : List UInt8} {k : Nat} {s : S} {l : List Nd} (h : on t s [124] = false) : exL ex t (k + 1) s l = (l, s) := by
  conv => lhs; unfold exL
  rw [if_neg (by rw [h]; simp)]
set_option maxRecDepth 100000 in
set_option maxHeartbeats 8000000 in
theorem expression_c (hsz : s.size ≤ 900000) (ex : S → Nd × S) (hadv : ∀ s', s'.pos ≤ s.data.toList.length → Adv s.data.toList s' (ex s').2) (hle : st.pos ≤ s.size)
    (hbr : ∀ V st', Rr w0 V p s A st' → st'.pos ≤ s.size → st.pos ≤ st'.pos → Calls Tryd.prog 73 #[.pointer (some ⟨p, 0, none⟩)] V (NdP w0 V p s A (brn ex s.data.toList st'))) (h : Rr w0 W p s A st) : Calls Tryd.prog 47 #[.pointer (some ⟨p, 0, none⟩)] W (NdP w0 W p s A (expr1 ex s.data.toList st)) := by
  obtain ⟨b1, s1, hb1⟩ : ∃ b1 s1, brn ex s.data.toList st = (b1, s1) := ⟨_, _, rfl⟩
  have hexp : expr1 ex s.data.toList st = (joinN 3 (exL ex s.data.toList (s.size + 1) s1 [b1]).1, (exL ex s.data.toList (s.size + 1) s1 [b1]).2) := by unfold expr1; rw [hb1, size_list]
  have hs1 := brn_adv (t := s.data.toList) hadv (by rw [← size_list]; exact hle)
  rw [hb1] at hs1
  have hcall1 := fun V (h' : Rr w0 V p s A st) => hbr V st h' hle (Nat.le_refl _)
  rw [hb1] at hcall1
  rw [hexp]
  have a1 := At.new h
  obtain ⟨W1, hW1⟩ : ∃ W1, W.alloc Z9 = W1 := ⟨_, rfl⟩
  rw [hW1] at a1
  have HW1 := Lib.hid (show W.alloc (.cells #[.int .i64 0, .int .u64 0, .int .u64 0, .int .u64 0, .int .u64 0, .slice none 0 0, .int .i64 0, .int .i64 0, .string ⟨#[]⟩] 27) = W1 from hW1)
  obtain ⟨R, hR⟩ : ∃ R, W.heap.size = R := ⟨_, rfl⟩
  rw [hR] at a1
  have HR := Lib.hid hR
  have H1 := Lib.hid a1
  have HC1 := Lib.hid hcall1
  have HBr := Lib.hid hbr
  have HAdv := Lib.hid hadv
  have HLe := Lib.hid hle
  have HT : Hid (∀ V st', Rr w0 V p s A st' → Calls Tryd.prog 74 #[.pointer (some ⟨p, 0, none⟩), .string ⟨#[124]⟩] V fun r w' => r = .returned (.bool (on s.data.toList st' [124])) ∧ Rr w0 w' p s A (takeS s.data.toList st' 124) ∧ Mod [p] V w') := Lib.hid (fun V st' h' => take_l 124 _ rfl (by omega) V h')
  have hsl := size_list s
  obtain ⟨t, ht⟩ : ∃ t, s.data.toList = t := ⟨_, rfl⟩
  rw [ht] at HT HBr HAdv hsl hs1 ⊢
  have HSl := Lib.hid hsl
  have hs1l := hs1.le
  rw [← hsl] at hs1l
  have HS1 : Hid (s1.pos ≤ s.size ∧ (s1.err = 0 → st.pos ≤ s1.pos)) := Lib.hid ⟨hs1l, fun he => (hs1.on he).2⟩
  clear h a1 hW1 hbr hadv hle hexp ht hsl hb1 hs1 hcall1 hs1l
  go_enter Tryd.func47, Tryd.ntmps47
  go_upto_region 1 with (fail)
  rw [HW1.out]
  try rw [HR.out]
  clear hR
  go_wp2_with fail
  refine (HC1.out _ H1.out.rr).mono ?_
  rintro _ w3 ⟨m, rfl, hme, hI, hb, hr, hm⟩
  have h3 := H1.out.step hr hm
  have l1 := H1.out.lt
  have hbb : Bl (fun q => W.heap.size ≤ q ∧ q ≠ R) m := hb.mono fun q (hq : _ ≤ q) => ⟨by omega, by omega⟩
  have hL := Lr.one h3.hR h3.hpw h3.lt.2.2 hI hbb
  have h4 := h3.below ((Below.refl _ _).alloc (Nat.le_refl _) (.cells (cells m).toArray 27))
  obtain ⟨x0, x1, x2, x3, hs4⟩ := four hI.len
  obtain ⟨k', sx, mn, mx, tx, aa, cc, ks⟩ := m
  simp only [Nd.set] at hs4
  subst hs4
  obtain ⟨nl, hnl⟩ : ∃ nl, ks.length = nl := ⟨_, rfl⟩
  have hnv : nv (.mk k' [x0, x1, x2, x3] mn mx tx aa cc ks) = .agg #[.int .i64 k', .int .u64 (x0 : Int), .int .u64 (x1 : Int), .int .u64 (x2 : Int), .int .u64 (x3 : Int), .slice aa nl cc, .int .i64 mn, .int .i64 mx, .string (Str tx)] := by rw [← hnl]; rfl
  have hcl : (cells (.mk k' [x0, x1, x2, x3] mn mx tx aa cc ks)).toArray = #[.int .i64 k', .int .u64 (x0 : Int), .int .u64 (x1 : Int), .int .u64 (x2 : Int), .int .u64 (x3 : Int), .slice aa nl cc, .int .i64 mn, .int .i64 mx, .string (Str tx)] := by rw [← hnl]; rfl
  rw [hnv]
  rw [hcl] at hL h4
  obtain ⟨W4, hW4⟩ : ∃ x, w3.alloc (.cells #[.int .i64 k', .int .u64 (x0 : Int), .int .u64 (x1 : Int), .int .u64 (x2 : Int), .int .u64 (x3 : Int), .slice aa nl cc, .int .i64 mn, .int .i64 mx, .string (Str tx)] 27) = x := ⟨_, rfl⟩
  rw [hW4] at hL h4
  have H4 := Lib.hid (And.intro h4 hL)
  have HMe0 := Lib.hid hme
  have HW4 := Lib.hid hW4
  clear h3 l1 hbb hL h4 hnv hcl hI hb hr hm hme hnl hW4
  dsimp only
  go_step
  go_step
  refine wp_build_run (build_nd _ _ _ _ _ _ _ _ _ _ _ _) rfl rfl ?_
  rw [HW4.out]
  go_wp2
  go_loopw [3] (fun v3 V => ∃ (k : Nat) (st' : S) (a : Option Addr) (n c : Nat) (ms : List Nd), v3 = .slice a n c ∧ At w0 W V p s A st' R ∧ Lr W V p R a n c ms ∧ st.pos ≤ st'.pos + (if st'.err = 0 then 0 else s.size) ∧ st'.pos ≤ s.size ∧ (st'.err = 0 → s.size - st'.pos < k + 1) ∧ n + k = s.size + 1 ∧ exL ex t (s.size + 1) s1 [b1] = exL ex t (k + 1) st' (ms.map er)) (fun _ V => left s.size V p)
  case atStart =>
    refine ⟨s.size, s1, _, 1, 1, _, rfl, H4.out.1, H4.out.2, ?_, HS1.out.1, fun _ => by omega, by omega, by rw [List.map_cons, List.map_nil, HMe0.out]⟩
    have h1 := HS1.out
    have h2 := HLe.out
    by_cases he : s1.err = 0
    · rw [if_pos he]
      have := h1.2 he
      omega
    · rw [if_neg he]
      omega
  case round =>
    obtain ⟨k, st', a, n, c, ms, rfl, ha, hl, hlo, hle, hk, hnk, hbr⟩ := hrel
    have HP := Lib.hid (And.intro ha hl)
    have HBr2 := Lib.hid hbr
    have HK := Lib.hid (And.intro hlo (And.intro hle (And.intro hk hnk)))
    obtain ⟨G, hG⟩ : ∃ G, on t st' [124] = G := ⟨_, rfl⟩
    have htk := HT.out _ _ HP.out.1.rr
    unfold takeS at htk
    rw [hG] at htk
    have HG := Lib.hid hG
    clear ha hl hbr hlo hle hk hnk H1 H4
    obtain ⟨wo, hwo⟩ : ∃ x, x = wr := ⟨_, rfl⟩
    subst hwo
    cases G with
      | false =>
        have HTk : Hid (Calls Tryd.prog 74 #[.pointer (some ⟨p, 0, none⟩), .string ⟨#[124]⟩] wo fun r w' => r = .returned (.bool false) ∧ Rr w0 w' p s A st' ∧ Mod [p] wo w') := Lib.hid htk
        have HEnd := Lib.hid (HBr2.out.trans (exL_end HG.out))
        clear htk hG
        go_wp2_with fail
        refine HTk.out.mono ?_
        rintro _ wc ⟨rfl, hr0, hm0⟩
        have HT0 : Hid (At w0 W wc p s A st' R ∧ Lr W wc p R a n c ms) := Lib.hid ⟨HP.out.1.step hr0 hm0, HP.out.2.mod hm0⟩
        clear hr0 hm0
        by_cases h1 : n = 1
        · as_aux_lemma =>
            subst h1
            obtain ⟨m0, rfl⟩ : ∃ m0, ms = [m0] := List.length_eq_one_iff.1 HT0.out.2.len
            obtain ⟨k', mn, mx, x0, x1, x2, x3, nl, cc, g, aa, tx, ks, rfl, hnl, rfl, e0, e1, e2, e3, e4, e5, e6, e7, e8⟩ := HT0.out.2.first
            have hkid := HT0.out.2.kid (.mk k' [x0, x1, x2, x3] mn mx tx aa cc ks) (by simp)
            have hf := HT0.out.1.fin hnl hkid.1 (hkid.2.mono fun q hq => ⟨hq.1, hq.2.1⟩)
            have hres : (joinN 3 (exL ex t (s.size + 1) s1 [b1]).1, (exL ex t (s.size + 1) s1 [b1]).2) = (er (.mk k' [x0, x1, x2, x3] mn mx tx aa cc ks), st') := by rw [HEnd.out]; rfl
            have HRes := Lib.hid hres
            have HPb := Lib.hid hf.1
            have HFin := Lib.hid hf.2
            have HZ8 := Lib.hid HT0.out.1.z
            clear hf hkid hres
            go_upto_region 5 with (fail)
            go_step
            go_step
            go_step
            go_step
            go_step
            go_step
            go_step
            go_step
            go_step
            go_step
            go_step
            refine wp_store9 rfl rfl rfl rfl HZ8.out ?_
            clear e0 e1 e2 e3 e4 e5 e6 e7 e8
            go_wp2
            ((try simp only [Exit.inBlock, Exit.then]); refine bodyPost_ret (results_cell_row rfl _ _ (R) 27 _ (0, 0) _ rfl (HPb.out) Tryd.underlying27 rfl ?hi1) rfl ?_; (case hi1 => kernel_rfl))
            rw [HRes.out]
            exact HFin.out
        · as_aux_lemma =>
            have h1b : ((n : Int) == 1) = false := by simp; omega
            have h1d : decide ((n : Int) = 1) = false := by simp; omega
            have h1n : decide (n = 1) = false := by simpa using h1
            have hnd := HT0.out.2.node 3
            have hf := HT0.out.1.fin (x0 := 0) (x1 := 0) (x2 := 0) (x3 := 0) (t := []) HT0.out.2.len hnd.1 hnd.2
            have hres : (joinN 3 (exL ex t (s.size + 1) s1 [b1]).1, (exL ex t (s.size + 1) s1 [b1]).2) = (er (.mk 3 [0, 0, 0, 0] 0 0 [] a c ms), st') := by
              rw [HEnd.out]
              simp only
              unfold joinN
              rw [if_neg (by rw [List.length_map, HT0.out.2.len]; exact h1)]
              simp only [er, ers_map]
            have HRes := Lib.hid hres
            have HPb := Lib.hid hf.1
            have HFin := Lib.hid hf.2
            have HZ8 := Lib.hid HT0.out.1.z
            clear hf hnd hres
            go_upto_region 6 with (fail)
            go_step
            go_step
            go_step
            go_step
            go_step
            go_step
            go_step
            go_step
            refine wp_store9 (x0 := 0) (x1 := 0) (x2 := 0) (x3 := 0) (t := []) rfl rfl rfl rfl HZ8.out ?_
            go_wp2
            ((try simp only [Exit.inBlock, Exit.then]); refine bodyPost_ret (results_cell_row rfl _ _ (R) 27 _ (0, 0) _ rfl (HPb.out) Tryd.underlying27 rfl ?hi2) rfl ?_; (case hi2 => kernel_rfl))
            rw [HRes.out]
            exact HFin.out
      | true =>
        as_aux_lemma =>
          have HTk : Hid (Calls Tryd.prog 74 #[.pointer (some ⟨p, 0, none⟩), .string ⟨#[124]⟩] wo fun r w' => r = .returned (.bool true) ∧ Rr w0 w' p s A (nx st') ∧ Mod [p] wo w') := Lib.hid htk
          clear htk hG
          have hmr := on_lt HG.out
          have hnx := nx_adv (t := t) hmr
          have hnl0 := hnx.le
          rw [← HSl.out] at hmr hnl0
          have hst := HK.out.1
          rw [if_pos hmr.1] at hst
          have hadv := brn_adv (t := t) (s := nx st') HAdv.out (by rw [← HSl.out]; exact hnl0)
          have hkp := HK.out.2.2.1 hmr.1
          obtain ⟨kk, rfl⟩ : ∃ kk, k = kk + 1 := ⟨k - 1, by omega⟩
          have hpn : (nx st').pos = st'.pos + 1 := rfl
          have hcall := fun V (h' : Rr w0 V p s A (nx st')) => HBr.out V (nx st') h' hnl0 (by omega)
          obtain ⟨n2, s2, hx2⟩ : ∃ n2 s2, brn ex t (nx st') = (n2, s2) := ⟨_, _, rfl⟩
          have hgo := HBr2.out.trans (exL_go (ex := ex) (k := kk + 1) HG.out)
          rw [hx2] at hcall hadv hgo
          have HC0 := Lib.hid hcall
          have HGo := Lib.hid hgo
          have hal := hadv.le
          rw [← HSl.out] at hal
          have HNum : Hid (s2.pos ≤ s.size ∧ (s2.err = 0 → st'.pos < s2.pos)) := Lib.hid ⟨hal, fun he => by have h9 : (nx st').pos ≤ s2.pos := (hadv.on he).2; omega⟩
          have HNum2 := Lib.hid (And.intro hmr (And.intro hst hkp))
          clear hmr hst hadv hkp hcall hx2 hgo hal hnx hnl0 hpn
          go_wp2_with fail
          refine HTk.out.mono ?_
          rintro _ wc ⟨rfl, hr0, hm0⟩
          have HT0 : Hid (At w0 W wc p s A (nx st') R ∧ Lr W wc p R a n c ms) := Lib.hid ⟨HP.out.1.step hr0 hm0, HP.out.2.mod hm0⟩
          have HC := Lib.hid (HC0.out wc hr0)
          clear hr0 hm0
          go_wp2_with fail
          refine HC.out.mono ?_
          rintro _ w5 ⟨m, rfl, hme, hI, hb, hr, hm⟩
          have h5 := HT0.out.1.step hr hm
          have l5 := HT0.out.2.mod hm
          have hlt := HT0.out.1.lt
          obtain ⟨g, cap, w6, run, hL6, hM6⟩ := l5.push (by have := HK.out.2.2.2; omega) h5.lt.2.2 m hI (hb.mono fun q (hq : _ ≤ q) => ⟨by omega, by omega, fun e => by have := (HT0.out.2.olt q e).2; omega⟩)
          have h6 := h5.other hM6 (fun x hx => by
            have hx2 : (Value.slice a n c).ownBlock = some x := by simpa using hx
            have := l5.olt x hx2
            have hq1 := h5.hR
            have hq2 := h5.hpw
            omega)
          obtain ⟨x0, x1, x2, x3, hs4⟩ := four hI.len
          obtain ⟨k', sx, mn, mx, tx, aa, cc, ks⟩ := m
          simp only [Nd.set] at hs4
          subst hs4
          obtain ⟨nl, hnl⟩ : ∃ nl, ks.length = nl := ⟨_, rfl⟩
          have hnv : nv (.mk k' [x0, x1, x2, x3] mn mx tx aa cc ks) = .agg #[.int .i64 k', .int .u64 (x0 : Int), .int .u64 (x1 : Int), .int .u64 (x2 : Int), .int .u64 (x3 : Int), .slice aa nl cc, .int .i64 mn, .int .i64 mx, .string (Str tx)] := by rw [← hnl]; rfl
          have hcl : (cells (.mk k' [x0, x1, x2, x3] mn mx tx aa cc ks)).toArray = #[.int .i64 k', .int .u64 (x0 : Int), .int .u64 (x1 : Int), .int .u64 (x2 : Int), .int .u64 (x3 : Int), .slice aa nl cc, .int .i64 mn, .int .i64 mx, .string (Str tx)] := by rw [← hnl]; rfl
          rw [hnv]
          rw [hcl] at run
          have H6 := Lib.hid (And.intro h6 (And.intro hL6 hr))
          have HMe := Lib.hid hme
          clear h5 l5 hlt hL6 hM6 h6 hnv hcl hI hb hr hm hme hnl
          dsimp only
          go_step
          go_step
          refine wp_build_run (build_nd _ _ _ _ _ _ _ _ _ _ _ _) rfl rfl ?_
          go_step
          (at_builtin; (with_reducible apply wpList_append_run run); rfl; rfl; rfl; rfl; rfl)
          clear run
          go_wp2
          go_roundw
          case rel =>
            refine ⟨kk, s2, some ⟨g, 0, none⟩, n + 1, cap, ms ++ [.mk k' [x0, x1, x2, x3] mn mx tx aa cc ks], rfl, H6.out.1, H6.out.2.1, ?_, HNum.out.1, fun he => ?_, ?_, ?_⟩
            · have h1 := HNum2.out
              have h2 := HNum.out
              have h3 := HLe.out
              by_cases he : s2.err = 0
              · rw [if_pos he]
                have := h2.2 he
                omega
              · rw [if_neg he]
                omega
            · have h1 := HNum2.out
              have h2 := HNum.out.2 he
              omega
            · have := HK.out.2.2.2
              omega
            · rw [HGo.out, List.map_append, List.map_cons, List.map_nil, HMe.out]
          case measure => exact left_lt HP.out.1.rr H6.out.1.rr HNum2.out.1.2 (fun he => ⟨HNum2.out.1.1, HNum.out.2 he⟩) HNum2.out.1.1
end Rx
end Go.Proofs.YtoeeddfinmfnoaaDoor

/- package regex: expression, for every text. -/
namespace Go.Proofs.YtoeeddfinmfnoaaDoor
open Go Go.RowKit Kt Sp St Bk Bo Tr
namespace Rx
variable {w0 : World} {p : Nat} {s : ByteArray} {A : Nat → Addr}
theorem expr_c (hsz : s.size ≤ 900000) : ∀ (k : Nat) (st : S) (W : World), Rr w0 W p s A st → st.pos ≤ s.size → s.size - st.pos < k → Calls Tryd.prog 47 #[.pointer (some ⟨p, 0, none⟩)] W (NdP w0 W p s A (expr s.data.toList k st))
  | 0, _, _, _, _, h => by omega
  | k + 1, st, W, h, hle, hk => by
    have hadv : ∀ s', s'.pos ≤ s.data.toList.length → Adv s.data.toList s' (expr s.data.toList k s').2 := fun s' h' => expr_adv k s' h'
    refine expression_c hsz (expr s.data.toList k) hadv hle (fun V st' h1 hl1 hp1 => ?_) h
    refine branch_c hsz (expr s.data.toList k) hadv hl1 (fun V2 st2 h2 hp2 hm2 => ?_) h1
    have ha := atm_adv (t := s.data.toList) (s := st2) hadv (by rw [← size_list]; exact hm2)
    refine piece_c (by omega) (expr s.data.toList k) (fun V3 h3 => ?_) (by have := ha.le; rw [← size_list] at this; exact this) h2
    refine atom_c (by omega) (expr s.data.toList k) hm2 (fun _ V4 h4 => ?_) h3
    have hpn : (nx st2).pos = st2.pos + 1 := rfl
    exact expr_c hsz k (nx st2) V4 h4 (by omega) (by omega)
end Rx
end Go.Proofs.YtoeeddfinmfnoaaDoor
