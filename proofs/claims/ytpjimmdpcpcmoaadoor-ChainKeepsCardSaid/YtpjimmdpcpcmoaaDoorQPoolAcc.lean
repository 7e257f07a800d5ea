/- The walks of package pool: Accounts. -/
import Derived.Test.YtpjimmdpcpcmoaaDoorQPoolAcc0
namespace Go.Proofs.YtpjimmdpcpcmoaaDoor
open Go Go.RowKit Go.Maps Go.Sort Go.Shelf Kt
namespace Po
variable {w w' : World} {p ob oc bb mz mg mb : Nat} {A : List (Int × Int × Nat)} {G : List (Option Nat)} {m : Md} {L : List Nat}
theorem sorted_strict {l l' : List Int} (hp : l.Perm l') (hn : l'.Nodup) : (l.mergeSort leI).Perm l' ∧ (l.mergeSort leI).Pairwise (· < ·) := by
  have tr : ∀ a b c : Int, leI a b = true → leI b c = true → leI a c = true := fun a b c h1 h2 => by simp only [leI, decide_eq_true_eq] at *; exact Int.le_trans h1 h2
  have tot : ∀ a b : Int, (leI a b || leI b a) = true := fun a b => by simp only [leI, Bool.or_eq_true, decide_eq_true_eq]; exact Int.le_total a b
  have h1 : (l.mergeSort leI).Perm l' := (List.mergeSort_perm l leI).trans hp
  refine ⟨h1, ?_⟩
  have h2 := List.pairwise_mergeSort tr tot l
  have h3 : (l.mergeSort leI).Nodup := h1.nodup_iff.2 hn
  refine (h2.and h3).imp fun {a b} h => ?_
  obtain ⟨h4, h5⟩ := h
  simp only [leI, decide_eq_true_eq] at h4
  omega
set_option maxHeartbeats 2000000 in
set_option maxRecDepth 100000 in
/-- (*Pool).Accounts: the accounts' numbers, sorted. -/
theorem accounts_c (w : World) (h : PI w p L m) :
    Calls Tryd.prog 15 #[.pointer (some ⟨p, 0, none⟩)] w fun e w' => ∃ v zs, e = .returned v ∧ zs.Perm (m.acc.map (·.1)) ∧ zs.Pairwise (· < ·) ∧ (∀ x ∈ zs, (Lit.int .i64 x).wf = true) ∧ w'.ownsRow w.heap.size 3 1 v zs.length (i64s zs) ∧ Below w.heap.size w w' := by
  refine (callsIn_wide (n := 6)).1 ?_
  have ha1 := h.ok.a1
  have hnd := h.ok.nd
  obtain ⟨ob, oc, bb, mz, mg, mb, A, G, hb, rfl⟩ := h.ex
  have hal : m.acc.length = A.length := by rw [hb.hA, List.length_map]
  have k3 := cell_block hb.hp 3
  obtain ⟨D, hown, hsz, hperm⟩ := hb.hM.keys Tryd.underlying3
  have hpa : (m.acc.map (·.1)).Perm (intKeys D) := by
    rw [hb.hA]
    simpa [List.map_map, Function.comp_def] using hperm
  rw [List.length_map] at hsz
  have hseq : SeqGives Fence.wide 2 Tryd.prog 74 #[.pointer (some ⟨w.heap.size, 0, none⟩)] encZ (fun ss => ss.Perm (intKeys D)) (Maps.size D) (w.alloc (.cells #[.map (some mb)] 89)) :=
    AnyZI.keys_gives (ρ := keysL_ren) { keysL with } Fence.wide _ trivial rfl (by omega) w.heap.size mb A.length D _ (by simp) (by simp) (by
      obtain ⟨es, clock, hb', Ft, hs, hD⟩ := hown
      exact ⟨es, clock, (Below.heap_alloc _ _ mb hb.hM.lt).trans hb', Ft, hs, hD⟩)
  have cK : ∀ b W, CallsIn Fence.wide 5 Tryd.prog 54 #[.map b] W fun e w' => e = .returned (.func (.func 74) #[] #[.pointer (some ⟨W.heap.size, 0, none⟩)]) ∧ w' = W.alloc (.cells #[.map b] 89) := fun b W => AnyZI.keys_in keysL Fence.wide 5 trivial rfl b W
  have cS := AnyZI.sorted_in sortedL Fence.wide 5 trivial trivial trivial trivial rfl (by omega) (sortsL _) (enters_of Tryd.func73 (by kernel_rfl) rfl) 74 #[.pointer (some ⟨w.heap.size, 0, none⟩)] trivial (enters_of Tryd.func74 (by kernel_rfl) rfl) _ _ (by rw [hsz]; unfold maxLen; omega) (by rw [hsz]; omega) _ hseq
  change CallsIn _ _ Tryd.prog 53 _ _ _ at cS
  have hkw := intKeys_wf hown Tryd.underlying3
  have hfin : ∀ ss : List Int, ss.Perm (intKeys D) → ((ss.mergeSort leI).Perm (m.acc.map (·.1)) ∧ (ss.mergeSort leI).Pairwise (· < ·)) ∧ ∀ x ∈ ss.mergeSort leI, (Lit.int .i64 x).wf = true := fun ss hs => ⟨sorted_strict (hs.trans hpa.symm) hnd, fun x hx => hkw x (hs.mem_iff.1 ((List.mergeSort_perm ss leI).mem_iff.1 hx))⟩
  have HF := Lib.hid hfin
  have HK := Lib.hid cK
  have HS := Lib.hid cS
  clear hb h hal hown hsz hperm hpa hseq cK cS hfin hkw ha1 hnd
  refine callsIn_of_wp Tryd.func15 rfl trivial ?_ rfl
  simp only [Tryd.ntmps15, List.size_toArray, List.length_cons, List.length_nil, Nat.reduceAdd, Nat.reduceSub, Array.replicate_succ, Array.replicate_zero, List.push_toArray, List.append_toArray, List.nil_append, List.cons_append]
  gi_wp2_with (first
    | (refine ⟨trivial, ?_⟩; gi_at_call 54; refine (HK.out _ _).mono ?_; rintro e w' ⟨rfl, rfl⟩)
    | (refine ⟨trivial, ?_⟩; gi_at_call 53; refine HS.out.mono ?_; rintro e w' ⟨v, ss, rfl, hS, hrow, hnil, hb⟩)
    | (gi_at_call 54; refine (HK.out _ _).mono ?_; rintro e w' ⟨rfl, rfl⟩)
    | (gi_at_call 53; refine HS.out.mono ?_; rintro e w' ⟨v, ss, rfl, hS, hrow, hnil, hb⟩))
  go_ret
  obtain ⟨⟨f1, f2⟩, f3⟩ := HF.out ss hS
  refine ⟨v, ss.mergeSort leI, rfl, f1, f2, f3, ?_, ((Below.refl _ _).alloc (Nat.le_refl _) _).trans (hb.mono (by simp))⟩
  rw [List.length_mergeSort]
  exact own_base hrow (by simp)
end Po
end Go.Proofs.YtpjimmdpcpcmoaaDoor
