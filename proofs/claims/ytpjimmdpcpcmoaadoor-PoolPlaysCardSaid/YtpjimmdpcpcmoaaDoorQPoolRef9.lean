/- The model's pool (dofferref30): a byte of a buffer; the law PoolPlays' state. -/
import Derived.Test.YtpjimmdpcpcmoaaDoorQPoolSame
import Derived.Test.YtpjimmdpcpcmoaaDoorQPoolKp
namespace Go.Proofs.YtpjimmdpcpcmoaaDoor
open Go Go.RowKit Kt
namespace Po
variable {w w' W W' : World} {p z ob oc bb bc ak : Nat} {aa : Option Addr} {G : List Nat} {m m' mr mr' : Md} {L L' M M' : List Nat}
theorem plcE_zero {x b at' : Int} (h : plcE m x b at' = 0) : hldE m x b = 0 ∧ 0 ≤ at' ∧ at' < (m.size : Int) := by
  unfold plcE at h
  split at h
  · rename_i h1; exact absurd h h1
  · rename_i h1
    split at h
    · cases h
    · exact ⟨by simpa using h1, by omega, by omega⟩
theorem RB.putd (h : RB w z ob oc bb bc aa ak G m) {x : Int} {j i g : Nat} {ys : List UInt8} (he : plcE m x j i = 0) (hG : G[j]? = some g) (hy : m.cont[j]? = some ys) (c : UInt8) :
    RB (w.setCell ⟨g, i, none⟩ (.int .u8 (c.toNat : Int))) z ob oc bb bc aa ak G (put m x j i c) := by
  have hnd := h.nd
  have hM : Mod [g] w (w.setCell ⟨g, i, none⟩ (.int .u8 (c.toNat : Int))) := (Mod.refl [g] w).setCell (.inl (by simp)) _
  have hm : put m x j i c = { m with cont := m.cont.set j (ys.set i c) } := by
    unfold put
    rw [if_pos he, Int.toNat_natCast, Int.toNat_natCast, show m.cont.getD j [] = ys by rw [List.getD_eq_getElem?_getD, hy]; rfl]
  rw [hm]
  have hgG := List.mem_of_getElem? hG
  have hns : ∀ k, k ≠ g → k ∉ [g] := fun k hk => by simpa using hk
  have hnd1 := List.nodup_cons.1 hnd
  have hnd2 := List.nodup_cons.1 hnd1.2
  have hnd3 := List.nodup_cons.1 hnd2.2
  have hnd4 := List.nodup_append.1 hnd3.2
  have e1 : z ≠ g := fun e => hnd1.1 (by simp [e, hgG])
  have e2 : ob ≠ g := fun e => hnd2.1 (by simp [e, hgG])
  have e3 : bb ≠ g := fun e => hnd3.1 (by simp [e, hgG])
  refine ⟨(hM.block z (block_lt h.hp) (hns _ e1)).trans h.hp, h.ho.mod hM (hns _ e2), h.ock, h.hb.mod hM (hns _ e3), h.bck, h.ha.mod hM (fun q hq => hns _ (hnd4.2.2 q.block (by subst hq; simp [sb]) g hgG)), h.al, h.akk, h.an, fun k hk => Nat.lt_of_lt_of_le (h.ab k hk) hM.size, h.hG, fun q gq y h3 h4 => ?_, fun k hk => Nat.lt_of_lt_of_le (h.hl k hk) hM.size, h.nd⟩
  by_cases hq : j = q
  · subst hq
    rw [hG] at h3
    simp only [Option.some.injEq] at h3
    subst h3
    have hjl : j < m.cont.length := (List.getElem?_eq_some_iff.1 hy).1
    rw [List.getElem?_set_self hjl] at h4
    simp only [Option.some.injEq] at h4
    subst h4
    have := (h.hg j g ys hG hy).set i (.int .u8 (c.toNat : Int))
    rw [show (u8s ys).set i (.int .u8 (c.toNat : Int)) = u8s (ys.set i c) by simp [u8s, List.map_set]] at this
    exact this
  · rw [List.getElem?_set_ne hq] at h4
    refine (h.hg q gq y h3 h4).mod hM (hns _ ?_)
    rintro rfl
    obtain ⟨l1, e5⟩ := List.getElem?_eq_some_iff.1 hG
    obtain ⟨l2, e6⟩ := List.getElem?_eq_some_iff.1 h3
    have hpw := List.pairwise_iff_getElem.1 hnd4.2.1
    rcases Nat.lt_trichotomy j q with h7 | h7 | h7
    · exact hpw j q l1 l2 h7 (e5.trans e6.symm)
    · exact hq h7
    · exact hpw q j l2 l1 h7 (e6.trans e5.symm)
/-- A byte that may be read and written. -/
theorem RI.byte (h : RI w z L m) {x b at' : Int} (he : plcE m x b at' = 0) :
    ∃ (j i bb bc g : Nat), b = (j : Int) ∧ at' = (i : Int) ∧ j < m.own.length ∧ i < m.size ∧ w.cell? ⟨z, 2, none⟩ = some (.slice (some ⟨bb, 0, none⟩) m.own.length bc) ∧ w.cell? ⟨bb, j, none⟩ = some (.slice (some ⟨g, 0, none⟩) m.size m.size) ∧
      w.cell? ⟨g, i, none⟩ = some (.int .u8 ((get m x b at').toNat : Int)) ∧ w.frozen? ⟨g, i, none⟩ = false ∧ z ≠ g ∧ bb ≠ g ∧ ∀ c : UInt8, RI (w.setCell ⟨g, i, none⟩ (.int .u8 (c.toNat : Int))) z L (put m x b at' c) ∧ Mod L w (w.setCell ⟨g, i, none⟩ (.int .u8 (c.toNat : Int))) := by
  obtain ⟨h1, h2, h3⟩ := plcE_zero he
  obtain ⟨_, _, hb0, hjn, _⟩ := hldE_zero h1
  obtain ⟨j, rfl⟩ : ∃ j : Nat, b = (j : Int) := ⟨b.toNat, by omega⟩
  obtain ⟨i, rfl⟩ : ∃ i : Nat, at' = (i : Int) := ⟨at'.toNat, by omega⟩
  rw [Int.toNat_natCast] at hjn
  obtain ⟨ob, oc, bb, bc, aa, ak, G, hb, rfl⟩ := h.ex
  have hjG : j < G.length := by rw [hb.hG]; exact hjn
  have hjc : j < m.cont.length := by rw [h.ok.cl]; exact hjn
  have hG : G[j]? = some G[j] := List.getElem?_eq_getElem hjG
  have hy : m.cont[j]? = some m.cont[j] := List.getElem?_eq_getElem hjc
  have hyl : m.cont[j].length = m.size := h.ok.cs _ (List.getElem_mem hjc)
  have hr := hb.hg j _ _ hG hy
  have kb := hb.hb.cell j (by simpa using hjG)
  have kc := hr.cell i (by simp [u8s, hyl]; omega)
  have hget : get m x (j : Int) (i : Int) = (m.cont[j]'hjc).getD i 0 := by
    unfold get
    rw [if_pos he, Int.toNat_natCast, Int.toNat_natCast, show m.cont.getD j [] = m.cont[j] by rw [List.getD_eq_getElem?_getD, hy]; rfl]
  refine ⟨j, i, bb, bc, G[j], rfl, rfl, hjn, by omega, cell_block hb.hp 2, by rw [kb]; simp, ?_, hr.fr i, ?_, ?_, fun c => ⟨⟨⟨ob, oc, bb, bc, aa, ak, G, hb.putd he hG hy c, rfl⟩, put_ok h.ok _ _ _ _⟩, (Mod.refl _ w).setCell (.inl ?_) _⟩⟩
  · rw [kc, hget, List.getD_eq_getElem?_getD, List.getElem?_eq_getElem (by rw [hyl]; omega)]
    simp [u8s]
  · have hgG := List.mem_of_getElem? hG
    have hnd1 := List.nodup_cons.1 hb.nd
    exact fun e => hnd1.1 (by simp [e, hgG])
  · have hgG := List.mem_of_getElem? hG
    have hnd3 := List.nodup_cons.1 (List.nodup_cons.1 (List.nodup_cons.1 hb.nd).2).2
    exact fun e => hnd3.1 (by simp [e, hgG])
  · have := List.getElem_mem hjG
    simp [this]
/-- The pool and its model, apart. -/
structure PlS (w W : World) (p z : Nat) (L M : List Nat) (m mr : Md) : Prop where
  i : PI W p L m
  r : RI W z M mr
  d : ∀ k ∈ L, k ∉ M
  lo : ∀ k ∈ L, w.heap.size ≤ k
  ro : ∀ k ∈ M, w.heap.size ≤ k
  B : Below w.heap.size w W
theorem PlS.below (h : PlS w W p z L M m mr) (hb : Below W.heap.size W W') : PlS w W' p z L M m mr :=
  ⟨h.i.below hb, h.r.below hb, h.d, h.lo, h.ro, h.B.trans (hb.mono h.B.size)⟩
theorem PlS.actp (h : PlS w W p z L M m mr) (hP : PI W' p L' m') (hM : Mod L W W') (hF : Fr L' L W.heap.size) : PlS w W' p z L' M m' mr := by
  have hlt := h.r.lts
  refine ⟨hP, h.r.mod hM (fun k hk hm => h.d k hm hk), fun k hk hm => ?_, fun k hk => ?_, h.ro, h.B.trans (hM.toBelow h.B.size h.lo)⟩
  · rcases hF k hk with h1 | h1
    · exact h.d k h1 hm
    · have := hlt k hm; omega
  · rcases hF k hk with h1 | h1
    · exact h.lo k h1
    · have := h.B.size; omega
theorem PlS.actr (h : PlS w W p z L M m mr) (hR : RI W' z M' mr') (hM : Mod M W W') (hF : Fr M' M W.heap.size) : PlS w W' p z L M' m mr' := by
  have hlt := h.i.lts
  refine ⟨h.i.mod hM (fun k hk hm => h.d k hk hm), hR, fun k hk hm => ?_, h.lo, fun k hk => ?_, h.B.trans (hM.toBelow h.B.size h.ro)⟩
  · rcases hF k hm with h1 | h1
    · exact h.d k hk h1
    · have := hlt k hk; omega
  · rcases hF k hk with h1 | h1
    · exact h.ro k h1
    · have := h.B.size; omega
end Po
end Go.Proofs.YtpjimmdpcpcmoaaDoor
