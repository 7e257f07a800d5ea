import Derived.Test.YtpjimmdpcpcmoaaDoorQPoolGet
import Derived.Test.YtpjimmdpcpcmoaaDoorQErr
import Derived.BigQuiet
/- The walks of package pool: holds, byte, At, Set. Condition: the sentinels read as laid. -/
namespace Go.Proofs.YtpjimmdpcpcmoaaDoor
open Go Go.RowKit Kt
namespace Po
variable {w w' : World} {p ob oc bb mz mg mb : Nat} {A : List (Int × Int × Nat)} {G : List (Option Nat)} {m : Md} {L : List Nat}
/-- An error by its number. -/
def ee (A : Nat → Addr) (n : Int) : Value := if n = 0 then .nilIface else Er.ev A (Er.egs.getD (n.toNat - 1) 0)
theorem num_ee (E : Nat → Addr) (n : Int) (h0 : 0 ≤ n) (h1 : n ≤ 18) (w : World) (hs : Sent 169 w E Er.egs) : Calls Tryd.prog 22 #[ee E n] w fun e w' => e = .returned (.int .i64 n) ∧ Below w.heap.size w w' := by
  unfold ee
  by_cases h : n = 0
  · subst h
    rw [if_pos rfl]
    exact (Er.num_nil w).mono fun e w' ⟨h1, h2⟩ => ⟨h1, h2 ▸ Below.refl _ _⟩
  · rw [if_neg h]
    refine (Er.num_err E (n.toNat - 1) (by omega) w hs).mono fun e w' ⟨h1, h2⟩ => ⟨?_, h2⟩
    rw [h1]
    congr 2
    omega
theorem sentc {E : Nat → Addr} {w : World} (hs : Sent 169 w E Er.egs) (n : Nat) (h0 : 0 < n) (h1 : n ≤ 18) : w.cell? ⟨Er.egs.getD (n - 1) 0, 0, none⟩ = some (ee E (n : Int)) := by
  have hl : Er.egs.length = 18 := rfl
  have h := hs.cell (Er.egs.getD (n - 1) 0) (by rw [List.getD_eq_getElem?_getD, List.getElem?_eq_getElem (by omega)]; exact List.getElem_mem _)
  rw [h]
  unfold ee
  rw [if_neg (by omega)]
  rfl
theorem PB.own_at (h : PB w p ob oc bb mz mg mb A G m) (j : Nat) (hj : j < m.own.length) : w.cell? ⟨ob, j, none⟩ = some (.int .i64 m.own[j]) := by
  have := h.ho.cell j (by rw [ints_len]; exact hj)
  rw [this]
  simp [i64s]
set_option maxRecDepth 100000 in
set_option maxHeartbeats 1000000 in
theorem holds_c (E : Nat → Addr) (x b : Int) (hx : (Lit.int .i64 x).wf = true) (w : World) (h : PI w p L m) (hs : Sent 169 w E Er.egs) :
    Calls Tryd.prog 52 #[.pointer (some ⟨p, 0, none⟩), .int .i64 x, .int .i64 b] w fun e w' => e = .returned (ee E (hldE m x b)) ∧ w = w' := by
  have hok := h.ok
  obtain ⟨ob, oc, bb, mz, mg, mb, A, G, hb, rfl⟩ := h.ex
  have k3 := cell_block hb.hp 3
  have k1 := cell_block hb.hp 1
  have hl := hb.look x hx
  have g15 : w.cell? ⟨3, 0, none⟩ = some (ee E 15) := sentc hs 15 (by decide) (by decide)
  have g12 : w.cell? ⟨15, 0, none⟩ = some (ee E 12) := sentc hs 12 (by decide) (by decide)
  obtain ⟨e15, h15⟩ : ∃ v, ee E 15 = v := ⟨_, rfl⟩
  obtain ⟨e12, h12⟩ : ∃ v, ee E 12 = v := ⟨_, rfl⟩
  rw [h15] at g15
  rw [h12] at g12
  have H15 := Lib.hid h15
  have H12 := Lib.hid h12
  have hn2 := hok.n2
  clear h15 h12 hs
  cases hc : crd m.acc x with
  | none =>
    have hv : hldE m x b = 15 := by unfold hldE; rw [if_pos hc]
    rw [hv, H15.out]
    rw [(hb.lk_iff x).2 hc] at hl
    simp only [pv, Option.isSome_none] at hl
    clear hb h hc hx hv
    go_enter Tryd.func52, Tryd.ntmps52
    go_wp2
    go_ret
    exact ⟨rfl, rfl⟩
  | some c =>
    obtain ⟨bk, e1, e2⟩ := hb.acct hc
    rw [e1] at hl
    simp only [pv, Option.isSome_some] at hl
    have hcn : ¬ crd m.acc x = none := by rw [hc]; simp
    by_cases hb0 : b < 0
    · have hv : hldE m x b = 12 := by unfold hldE; rw [if_neg hcn, if_pos (.inl hb0)]
      rw [hv, H12.out]
      clear hb h hc hx hv hcn e1 e2
      go_enter Tryd.func52, Tryd.ntmps52
      go_wp2
      go_ret
      exact ⟨rfl, rfl⟩
    · obtain ⟨j, rfl⟩ : ∃ j : Nat, b = (j : Int) := ⟨b.toNat, by omega⟩
      by_cases hjn : j < m.own.length
      · have kj := hb.own_at j hjn
        obtain ⟨o, ho⟩ : ∃ o, m.own[j] = o := ⟨_, rfl⟩
        rw [ho] at kj
        by_cases hox : o = x
        · have hv : hldE m x j = 0 := by
            unfold hldE
            rw [if_neg hcn, if_neg]
            rintro (h1 | h1 | h1)
            · omega
            · omega
            · rw [Int.toNat_natCast, List.getElem?_eq_getElem hjn, ho, hox] at h1
              exact h1 rfl
          rw [hv]
          obtain ⟨n, hn⟩ : ∃ n, m.own.length = n := ⟨_, rfl⟩
          rw [hn] at k1 hjn hn2
          subst hox
          clear hb h hc hx hv hcn e1 e2 ho hn hok
          go_enter Tryd.func52, Tryd.ntmps52
          go_wp2
          go_ret
          exact ⟨rfl, rfl⟩
        · have hv : hldE m x j = 12 := by
            unfold hldE
            rw [if_neg hcn, if_pos]
            refine .inr (.inr ?_)
            rw [Int.toNat_natCast, List.getElem?_eq_getElem hjn, ho]
            simpa using hox
          rw [hv, H12.out]
          obtain ⟨n, hn⟩ : ∃ n, m.own.length = n := ⟨_, rfl⟩
          rw [hn] at k1 hjn hn2
          have hob : (o != x) = true := by simpa using hox
          clear hb h hc hx hv hcn e1 e2 ho hn hok hox
          go_enter Tryd.func52, Tryd.ntmps52
          go_wp2
          go_ret
          exact ⟨rfl, rfl⟩
      · have hv : hldE m x j = 12 := by unfold hldE; rw [if_neg hcn, if_pos (.inr (.inl (by omega)))]
        rw [hv, H12.out]
        obtain ⟨n, hn⟩ : ∃ n, m.own.length = n := ⟨_, rfl⟩
        rw [hn] at k1 hjn hn2
        clear hb h hc hx hv hcn e1 e2 hn hok
        go_enter Tryd.func52, Tryd.ntmps52
        go_wp2
        go_ret
        exact ⟨rfl, rfl⟩
/-- The cell of a byte that is held. -/
theorem PB.byte_at (h : PB w p ob oc bb mz mg mb A G m) (hk : Ok m) {x b at' : Int} (hp : plcE m x b at' = 0) : ∃ (j i g : Nat) (_hj : j < m.own.length) (ys : List UInt8) (hi : i < ys.length), b = (j : Int) ∧ at' = (i : Int) ∧ i < m.size ∧ G[j]? = some (some g) ∧ m.cont[j]? = some ys ∧ ys.length = m.size ∧
    w.cell? ⟨bb, j, none⟩ = some (.slice (some ⟨g, 0, none⟩) m.size m.size) ∧ Rx w g 5 m.size (u8s ys) ∧ w.cell? ⟨g, i, none⟩ = some (.int .u8 (ys[i].toNat : Int)) := by
  unfold plcE at hp
  split at hp
  · rename_i h1; exact absurd hp h1
  · rename_i h1
    have h1' : hldE m x b = 0 := by simpa using h1
    split at hp
    · simp at hp
    · rename_i h2
      obtain ⟨c, hc, hb0, hj, ho⟩ := hldE_zero h1'
      have hx0 := (hk.cr _ (crd_mem hc)).1
      simp only at hx0
      rcases h.hg _ hj with ⟨_, o, h3, h4⟩ | ⟨g, o, ys, h3, _, _, h5, h6⟩
      · rw [List.getElem?_eq_getElem hj, ho] at h3
        simp only [Option.some.injEq] at h3
        omega
      · have hys : ys.length = m.size := hk.cs ys (List.mem_of_getElem? h5)
        have hi : at'.toNat < ys.length := by omega
        have h7 := h.hb.cell b.toNat (by rw [List.length_map, h.hG]; exact hj)
        have h8 := h6.cell at'.toNat (by simpa [u8s] using hi)
        have h9 : G[b.toNat]'(by rw [h.hG]; exact hj) = some g := by
          rw [List.getElem?_eq_getElem (by rw [h.hG]; exact hj)] at h3
          simpa using h3
        refine ⟨b.toNat, at'.toNat, g, hj, ys, hi, by omega, by omega, by omega, h3, h5, hys, ?_, h6, ?_⟩
        · rw [h7, List.getElem_map, h9]; rfl
        · rw [h8]; simp [u8s]
theorem plc_hold {m : Md} {x b at' : Int} (h : hldE m x b ≠ 0) : plcE m x b at' = hldE m x b := by unfold plcE; rw [if_pos h]
set_option maxRecDepth 100000 in
set_option maxHeartbeats 1000000 in
theorem byte_yes (E : Nat → Addr) (x : Int) (j i g z n : Nat) (hx : (Lit.int .i64 x).wf = true) (w : World) (h : PI w p L m) (hs : Sent 169 w E Er.egs) (he : plcE m x j i = 0) (hb0 : w.cell? ⟨p, 0, none⟩ = some (.slice (some ⟨bb, 0, none⟩) n n)) (_hn : m.own.length = n) (hj : j < n)
    (_hz : m.size = z) (hi : i < z) (hbb : w.cell? ⟨bb, j, none⟩ = some (.slice (some ⟨g, 0, none⟩) z z)) (k4 : w.cell? ⟨p, 4, none⟩ = some (.int .i64 (z : Int))) :
    Calls Tryd.prog 61 #[.pointer (some ⟨p, 0, none⟩), .int .i64 x, .int .i64 j, .int .i64 i] w fun e w' => e = .returned (.tuple #[.pointer (some ⟨g, i, none⟩), .nilIface]) ∧ w = w' := by
  have hh := holds_c E x j hx w h hs
  have h0 : hldE m x j = 0 := by
    rcases Decidable.em (hldE m x j = 0) with h1 | h1
    · exact h1
    · rw [plc_hold h1] at he; exact he
  rw [h0] at hh
  have hnil : ee E 0 = .nilIface := rfl
  rw [hnil] at hh
  have HH := Lib.hid hh
  have hn2 := h.ok.n2
  have hs2 := h.ok.s2
  rw [_hn] at hn2
  rw [_hz] at hs2
  clear hh h hs he h0 hnil _hn _hz
  go_enter Tryd.func61, Tryd.ntmps61
  go_wp2_with (go_at_call 52; (with_reducible refine HH.out.mono ?_); rintro e w2 ⟨rfl, rfl⟩)
  go_ret2
  exact ⟨by first | rfl | simp, rfl⟩
end Po
end Go.Proofs.YtpjimmdpcpcmoaaDoor
