/- The model's pool (dofferref30): Take. -/
import Derived.Test.YtpjimmdpcpcmoaaDoorQPoolRef1
import Derived.Test.YtpjimmdpcpcmoaaDoorQPoolTake1
namespace Go.Proofs.YtpjimmdpcpcmoaaDoor
open Go Go.RowKit Kt
namespace Po
variable {w w' : World} {z ob oc bb bc ak : Nat} {aa : Option Addr} {G : List Nat} {m : Md} {L : List Nat}
/-- The model behind a taken buffer. -/
theorem RB.take (h : RB w z ob oc bb bc aa ak G m) {i : Nat} (hi : i < m.own.length) (x : Int) {w1 : World}
    (hw : w1 = (((w.alloc (.cells (u8s (List.replicate m.size 0)).toArray 5 (0, 0))).setCell ⟨ob, i, none⟩ (.int .i64 x)).setCell ⟨bb, i, none⟩ (.slice (some ⟨w.heap.size, 0, none⟩) m.size m.size)).drew) :
    RB w1 z ob oc bb bc aa ak (G.set i w.heap.size) { m with own := m.own.set i x, cont := m.cont.set i (List.replicate m.size 0) } ∧ Mod [ob, bb] w w1 ∧ Fr (z :: ob :: bb :: (sb aa ++ G.set i w.heap.size)) (z :: ob :: bb :: (sb aa ++ G)) w.heap.size := by
  subst hw
  have hnd := h.nd
  have hlt := h.lts
  have hMX : Mod [ob, bb] w (((w.alloc (.cells (u8s (List.replicate m.size 0)).toArray 5 (0, 0))).setCell ⟨ob, i, none⟩ (.int .i64 x)).setCell ⟨bb, i, none⟩ (.slice (some ⟨w.heap.size, 0, none⟩) m.size m.size)) := (((Mod.refl [ob, bb] w).alloc _).setCell (.inl (by simp)) _).setCell (.inl (by simp)) _
  have hM := hMX.drew
  have hno : ∀ k, k ≠ ob → k ≠ bb → k ∉ [ob, bb] := fun k h1 h2 => by simp [h1, h2]
  have e1 : (i64s m.own).set i (.int .i64 x) = i64s (m.own.set i x) := by simp [i64s, List.map_set]
  have e2 : (G.map fun g => Value.slice (some ⟨g, 0, none⟩) m.size m.size).set i (.slice (some ⟨w.heap.size, 0, none⟩) m.size m.size) = (G.set i w.heap.size).map fun g => .slice (some ⟨g, 0, none⟩) m.size m.size := by rw [List.map_set]
  have hnd1 := List.nodup_cons.1 hnd
  have hnd2 := List.nodup_cons.1 hnd1.2
  have hnd3 := List.nodup_cons.1 hnd2.2
  have hz1 : z ≠ ob := fun e => hnd1.1 (by rw [e]; simp)
  have hz2 : z ≠ bb := fun e => hnd1.1 (by rw [e]; simp)
  have hob : ob ≠ bb := fun e => hnd2.1 (by rw [e]; simp)
  have hs1 : ∀ k ∈ sb aa ++ G, k ≠ ob ∧ k ≠ bb := fun k hk => ⟨fun e => hnd2.1 (by rw [← e]; simp [List.mem_append.1 hk]), fun e => hnd3.1 (e ▸ hk)⟩
  have ho4 := ((h.ho.alloc (.cells (u8s (List.replicate m.size 0)).toArray 5 (0, 0))).set i (.int .i64 x)).other (b := bb) (fun e => hob e.symm) i (.slice (some ⟨w.heap.size, 0, none⟩) m.size m.size)
  have hb4 := ((h.hb.alloc (.cells (u8s (List.replicate m.size 0)).toArray 5 (0, 0))).other (b := ob) hob i (.int .i64 x)).set i (.slice (some ⟨w.heap.size, 0, none⟩) m.size m.size)
  have hg4 := ((Rx.new w 5 (u8s (List.replicate m.size 0))).other (b := ob) (by have := h.ho.lt; omega) i (.int .i64 x)).other (b := bb) (by have := h.hb.lt; omega) i (.slice (some ⟨w.heap.size, 0, none⟩) m.size m.size)
  rw [e1] at ho4
  rw [e2] at hb4
  have hgl : (u8s (List.replicate m.size (0 : UInt8))).length = m.size := by simp [u8s]
  rw [hgl] at hg4
  have hiG : i < G.length := by rw [h.hG]; exact hi
  have hset : G.set i w.heap.size = G.take i ++ w.heap.size :: G.drop (i + 1) := by rw [List.set_eq_take_append_cons_drop, if_pos hiG]
  have hGs : G = G.take i ++ G[i] :: G.drop (i + 1) := by rw [← List.drop_eq_getElem_cons hiG, List.take_append_drop]
  have hfr : Fr (z :: ob :: bb :: (sb aa ++ G.set i w.heap.size)) (z :: ob :: bb :: (sb aa ++ G)) w.heap.size := by
    intro k hk
    simp only [List.mem_cons, List.mem_append] at hk ⊢
    rcases hk with h1 | h1 | h1 | h1 | h1
    · exact .inl (.inl h1)
    · exact .inl (.inr (.inl h1))
    · exact .inl (.inr (.inr (.inl h1)))
    · exact .inl (.inr (.inr (.inr (.inl h1))))
    · rcases List.mem_or_eq_of_mem_set h1 with h2 | h2
      · exact .inl (.inr (.inr (.inr (.inr h2))))
      · exact .inr (by omega)
  refine ⟨⟨?_, ho4.drew, h.ock, hb4.drew, h.bck, h.ha.mod hM (fun q hq => ?_), h.al, h.akk, h.an, fun k hk => Nat.lt_of_lt_of_le (h.ab k hk) hM.size, by simpa using h.hG, fun j g y h3 h4 => ?_, fun g hg => ?_, ?_⟩, hM, hfr⟩
  · simp only [List.length_set]
    exact (hM.block z (block_lt h.hp) (hno _ hz1 hz2)).trans h.hp
  · have := hs1 q.block (by subst hq; simp [sb])
    exact hno _ this.1 this.2
  · by_cases hj : i = j
    · subst hj
      rw [List.getElem?_set_self (by simpa using hiG)] at h3
      simp only [Option.some.injEq] at h3
      subst h3
      have h5 : i < m.cont.length := by
        rcases Nat.lt_or_ge i m.cont.length with h5 | h5
        · exact h5
        · rw [List.getElem?_eq_none (by simpa using h5)] at h4; cases h4
      rw [List.getElem?_set_self h5] at h4
      simp only [Option.some.injEq] at h4
      subst h4
      exact hg4.drew
    · rw [List.getElem?_set_ne hj] at h3 h4
      have := hs1 g (by simp [List.mem_of_getElem? h3])
      exact (h.hg j g y h3 h4).mod hM (hno _ this.1 this.2)
  · rcases List.mem_or_eq_of_mem_set hg with h2 | h2
    · exact Nat.lt_of_lt_of_le (h.hl g h2) hM.size
    · subst h2
      exact hg4.drew.lt
  · have e3 : z :: ob :: bb :: (sb aa ++ G.set i w.heap.size) = (z :: ob :: bb :: (sb aa ++ G.take i)) ++ w.heap.size :: G.drop (i + 1) := by rw [hset]; simp
    have e4 : z :: ob :: bb :: (sb aa ++ G) = (z :: ob :: bb :: (sb aa ++ G.take i)) ++ G[i] :: G.drop (i + 1) := by
      conv => lhs; rw [hGs]
      simp
    rw [e4, List.perm_middle.nodup_iff, List.nodup_cons] at hnd
    rw [e3, List.perm_middle.nodup_iff, List.nodup_cons]
    refine ⟨fun hm => ?_, hnd.2⟩
    have := hlt w.heap.size (by
      rw [e4]
      rcases List.mem_append.1 hm with h1 | h1
      · exact List.mem_append.2 (.inl h1)
      · exact List.mem_append.2 (.inr (List.mem_cons_of_mem _ h1)))
    omega
end Po
end Go.Proofs.YtpjimmdpcpcmoaaDoor
