import Derived.Test.YtpjimmdpcpcmoaaDoorQPoolGet
import Derived.Shelf.SlIterI.Nil
import Derived.Shelf.SortM.Plain
import Derived.Shelf.SortM.SortNone
/- The walks of package pool: Accounts. Printed in part by gen_layg.py (the shelf's structures at the seat). -/
namespace Go.Proofs.YtpjimmdpcpcmoaaDoor
open Go Go.RowKit Go.Maps Go.Sort Go.Shelf Kt
namespace Po
def keysL_ren : Go.Shelf.Ren := ⟨fun | 7 => 54 | 10 => 74 | n => n,
  fun | 0 => 0 | 3 => 98 | 4 => 4 | 23 => 89 | 26 => 3 | 27 => 105 | 28 => 106 | 33 => 97 | n => n,
  fun n => n⟩
set_option maxRecDepth 100000 in
theorem keysL : Go.Proofs.SlLaysZI.n7 Tryd.prog keysL_ren := {
  mixed := by kernel_rfl,
  f7 := ⟨Tryd.f54.name, by kernel_rfl, Tryd.func54.trans (by kernel_rfl)⟩,
  f10 := ⟨Tryd.f74.name, by kernel_rfl, Tryd.func74.trans (by kernel_rfl)⟩,
  t0 := by kernel_rfl,
  a0 := fun _ => by kernel_rfl,
  z0 := fun _ => by kernel_rfl,
  v0 := fun _ => by kernel_rfl,
  t4 := by kernel_rfl,
  a4 := fun _ => by kernel_rfl,
  z4 := fun _ => by kernel_rfl,
  v4 := fun _ => by kernel_rfl,
  t23 := by kernel_rfl,
  a23 := fun _ => by kernel_rfl,
  z23 := fun _ => by kernel_rfl,
  v23 := fun _ => by kernel_rfl,
  t26 := by kernel_rfl,
  a26 := fun _ => by kernel_rfl,
  z26 := fun _ => by kernel_rfl,
  v26 := fun _ => by kernel_rfl,
  t27 := by kernel_rfl,
  a27 := fun _ => by kernel_rfl,
  z27 := fun _ => by kernel_rfl,
  v27 := fun _ => by kernel_rfl,
  t28 := by kernel_rfl,
  a28 := fun _ => by kernel_rfl,
  z28 := fun _ => by kernel_rfl,
  v28 := fun _ => by kernel_rfl,
  t33 := by kernel_rfl,
  a33 := fun _ => by kernel_rfl,
  z33 := fun _ => by kernel_rfl,
  v33 := fun _ => by kernel_rfl }
def sortedL_ren : Go.Shelf.Ren := ⟨fun | 6 => 53 | 8 => 72 | 9 => 73 | 11 => 79 | n => n,
  fun | 0 => 0 | 24 => 38 | 26 => 3 | 28 => 106 | 33 => 97 | n => n,
  fun n => n⟩
set_option maxRecDepth 100000 in
theorem sortedL : Go.Proofs.SlLaysZI.n6 Tryd.prog sortedL_ren := {
  mixed := by kernel_rfl,
  f6 := ⟨Tryd.f53.name, by kernel_rfl, Tryd.func53.trans (by kernel_rfl)⟩,
  f8 := ⟨Tryd.f72.name, by kernel_rfl, Tryd.func72.trans (by kernel_rfl)⟩,
  f11 := ⟨Tryd.f79.name, by kernel_rfl, Tryd.func79.trans (by kernel_rfl)⟩,
  t0 := by kernel_rfl,
  a0 := fun _ => by kernel_rfl,
  z0 := fun _ => by kernel_rfl,
  v0 := fun _ => by kernel_rfl,
  t24 := by kernel_rfl,
  a24 := fun _ => by kernel_rfl,
  z24 := fun _ => by kernel_rfl,
  v24 := fun _ => by kernel_rfl,
  t26 := by kernel_rfl,
  a26 := fun _ => by kernel_rfl,
  z26 := fun _ => by kernel_rfl,
  v26 := fun _ => by kernel_rfl,
  t28 := by kernel_rfl,
  a28 := fun _ => by kernel_rfl,
  z28 := fun _ => by kernel_rfl,
  v28 := fun _ => by kernel_rfl,
  i26 := by kernel_rfl }
def sortL_ren : Go.Shelf.Ren := ⟨fun | 5 => 73 | 7 => 80 | 8 => 81 | 10 => 82 | 11 => 83 | 12 => 84 | 13 => 85 | 14 => 86 | 15 => 87 | 16 => 88 | 17 => 89 | 18 => 90 | 19 => 91 | 20 => 92 | 30 => 93 | 31 => 94 | 32 => 95 | 33 => 96 | 34 => 97 | 35 => 98 | 40 => 99 | n => n,
  fun | 0 => 0 | 3 => 3 | 4 => 4 | 5 => 5 | 9 => 9 | 22 => 38 | 23 => 38 | 25 => 3 | 32 => 24 | 35 => 152 | 36 => 153 | 41 => 37 | 44 => 160 | 46 => 123 | 53 => 161 | 57 => 165 | 63 => 167 | 64 => 51 | n => n,
  fun n => n⟩
set_option maxRecDepth 100000 in
theorem sortL : Go.Proofs.SlLaysM.n5 Tryd.prog sortL_ren := {
  mixed := by kernel_rfl,
  f5 := ⟨Tryd.f73.name, by kernel_rfl, Tryd.func73.trans (by kernel_rfl)⟩,
  f7 := ⟨Tryd.f80.name, by kernel_rfl, Tryd.func80.trans (by kernel_rfl)⟩,
  f8 := Tryd.func81.trans (by kernel_rfl),
  f10 := ⟨Tryd.f82.name, by kernel_rfl, Tryd.func82.trans (by kernel_rfl)⟩,
  f11 := ⟨Tryd.f83.name, by kernel_rfl, Tryd.func83.trans (by kernel_rfl)⟩,
  f12 := ⟨Tryd.f84.name, by kernel_rfl, Tryd.func84.trans (by kernel_rfl)⟩,
  f13 := ⟨Tryd.f85.name, by kernel_rfl, Tryd.func85.trans (by kernel_rfl)⟩,
  f14 := ⟨Tryd.f86.name, by kernel_rfl, Tryd.func86.trans (by kernel_rfl)⟩,
  f15 := ⟨Tryd.f87.name, by kernel_rfl, Tryd.func87.trans (by kernel_rfl)⟩,
  f16 := ⟨Tryd.f88.name, by kernel_rfl, Tryd.func88.trans (by kernel_rfl)⟩,
  f17 := ⟨Tryd.f89.name, by kernel_rfl, Tryd.func89.trans (by kernel_rfl)⟩,
  f18 := ⟨Tryd.f90.name, by kernel_rfl, Tryd.func90.trans (by kernel_rfl)⟩,
  f19 := Tryd.func91.trans (by kernel_rfl),
  f20 := Tryd.func92.trans (by kernel_rfl),
  f30 := ⟨Tryd.f93.name, by kernel_rfl, Tryd.func93.trans (by kernel_rfl)⟩,
  f31 := Tryd.func94.trans (by kernel_rfl),
  f32 := Tryd.func95.trans (by kernel_rfl),
  f33 := ⟨Tryd.f96.name, by kernel_rfl, Tryd.func96.trans (by kernel_rfl)⟩,
  f34 := ⟨Tryd.f97.name, by kernel_rfl, Tryd.func97.trans (by kernel_rfl)⟩,
  f35 := ⟨Tryd.f98.name, by kernel_rfl, Tryd.func98.trans (by kernel_rfl)⟩,
  f40 := ⟨Tryd.f99.name, by kernel_rfl, Tryd.func99.trans (by kernel_rfl)⟩,
  t0 := by kernel_rfl,
  a0 := fun _ => by kernel_rfl,
  z0 := fun _ => by kernel_rfl,
  v0 := fun _ => by kernel_rfl,
  t3 := by kernel_rfl,
  a3 := fun _ => by kernel_rfl,
  z3 := fun _ => by kernel_rfl,
  v3 := fun _ => by kernel_rfl,
  t4 := by kernel_rfl,
  a4 := fun _ => by kernel_rfl,
  z4 := fun _ => by kernel_rfl,
  v4 := fun _ => by kernel_rfl,
  t5 := by kernel_rfl,
  a5 := fun _ => by kernel_rfl,
  z5 := fun _ => by kernel_rfl,
  v5 := fun _ => by kernel_rfl,
  t9 := by kernel_rfl,
  a9 := fun _ => by kernel_rfl,
  z9 := fun _ => by kernel_rfl,
  v9 := fun _ => by kernel_rfl,
  t22 := by kernel_rfl,
  a22 := fun _ => by kernel_rfl,
  z22 := fun _ => by kernel_rfl,
  v22 := fun _ => by kernel_rfl,
  t23 := by kernel_rfl,
  a23 := fun _ => by kernel_rfl,
  z23 := fun _ => by kernel_rfl,
  v23 := fun _ => by kernel_rfl,
  t25 := by kernel_rfl,
  a25 := fun _ => by kernel_rfl,
  z25 := fun _ => by kernel_rfl,
  v25 := fun _ => by kernel_rfl,
  t32 := by kernel_rfl,
  a32 := fun _ => by kernel_rfl,
  z32 := fun _ => by kernel_rfl,
  v32 := fun _ => by kernel_rfl,
  t35 := by kernel_rfl,
  a35 := fun _ => by kernel_rfl,
  z35 := fun _ => by kernel_rfl,
  v35 := fun _ => by kernel_rfl,
  t36 := by kernel_rfl,
  a36 := fun _ => by kernel_rfl,
  z36 := fun _ => by kernel_rfl,
  v36 := fun _ => by kernel_rfl,
  t41 := by kernel_rfl,
  a41 := fun _ => by kernel_rfl,
  z41 := fun _ => by kernel_rfl,
  v41 := fun _ => by kernel_rfl,
  t44 := by kernel_rfl,
  a44 := fun _ => by kernel_rfl,
  z44 := fun _ => by kernel_rfl,
  v44 := fun _ => by kernel_rfl,
  t46 := by kernel_rfl,
  a46 := fun _ => by kernel_rfl,
  z46 := fun _ => by kernel_rfl,
  v46 := fun _ => by kernel_rfl,
  t53 := by kernel_rfl,
  a53 := fun _ => by kernel_rfl,
  z53 := fun _ => by kernel_rfl,
  v53 := fun _ => by kernel_rfl,
  t57 := by kernel_rfl,
  a57 := fun _ => by kernel_rfl,
  z57 := fun _ => by kernel_rfl,
  v57 := fun _ => by kernel_rfl,
  t63 := by kernel_rfl,
  a63 := fun _ => by kernel_rfl,
  z63 := fun _ => by kernel_rfl,
  v63 := fun _ => by kernel_rfl,
  t64 := by kernel_rfl,
  a64 := fun _ => by kernel_rfl,
  z64 := fun _ => by kernel_rfl,
  v64 := fun _ => by kernel_rfl }

theorem sortsL (m : Nat) : AnyZI.SortsIn Tryd.prog sortedL_ren Fence.wide m :=
  ⟨fun blk off cap ss W hH hblk hsz => callsIn_wide.2 (AnyM.slices_Sort_int sortL blk off cap ss W hH hblk hsz),
   fun p cap W => callsIn_wide.2 (AnyM.slices_Sort_int_none sortL p cap W)⟩
end Po
end Go.Proofs.YtpjimmdpcpcmoaaDoor

/- The walks of package pool: Accounts. -/
namespace Go.Proofs.YtpjimmdpcpcmoaaDoor
open Go Go.RowKit Go.Maps Go.Sort Go.Shelf Kt
namespace Po
variable {w w' : World} {p ob oc bb mz mg mb : Nat} {A : List (Int × Int × Nat)} {G : List (Option Nat)} {m : Md} {L : List Nat}
theorem sorted_strict {l l' : List Int} (hp : l.Perm l') (hn : l'.Nodup) : (l.mergeSort leI).Perm l' ∧ (l.mergeSort leI).Pairwise (· < ·) := by
  have tr : ∀ a b c : Int, leI a b = true → leI b c = true → leI a c = true := fun a b c h1 h2 => by simp only [leI, decide_eq_true_eq] at *; exact Int.le_trans h1 h2
  have tot : ∀ a b : Int, (leI a b || leI b a) = true := fun a b => by simp only [leI, Bool.or_eq_true, decide_eq_true_eq]; exact Int.le_total a b
  have h1 : (l.mergeSort leI).Perm l' := (List.mergeSort_perm l leI).trans hp
  refine ⟨h1, ?_⟩
  have h2 := List.pairwise_mergeSort tr tot l
  have h3 : (l.mergeSort leI).Nodup := h1.nodup_iff.2 hn
  refine (h2.and h3).imp fun {a b} h => ?_
  obtain ⟨h4, h5⟩ := h
  simp only [leI, decide_eq_true_eq] at h4
  omega
set_option maxHeartbeats 2000000 in
set_option maxRecDepth 100000 in
/-- (*Pool).Accounts: the accounts' numbers, sorted. -/
theorem accounts_c (w : World) (h : PI w p L m) :
    Calls Tryd.prog 15 #[.pointer (some ⟨p, 0, none⟩)] w fun e w' => ∃ v zs, e = .returned v ∧ zs.Perm (m.acc.map (·.1)) ∧ zs.Pairwise (· < ·) ∧ (∀ x ∈ zs, (Lit.int .i64 x).wf = true) ∧ w'.ownsRow w.heap.size 3 1 v zs.length (i64s zs) ∧ Below w.heap.size w w' := by
  refine (callsIn_wide (n := 6)).1 ?_
  have ha1 := h.ok.a1
  have hnd := h.ok.nd
  obtain ⟨ob, oc, bb, mz, mg, mb, A, G, hb, rfl⟩ := h.ex
  have hal : m.acc.length = A.length := by rw [hb.hA, List.length_map]
  have k3 := cell_block hb.hp 3
  obtain ⟨D, hown, hsz, hperm⟩ := hb.hM.keys Tryd.underlying3
  have hpa : (m.acc.map (·.1)).Perm (intKeys D) := by
    rw [hb.hA]
    simpa [List.map_map, Function.comp_def] using hperm
  rw [List.length_map] at hsz
  have hseq : SeqGives Fence.wide 2 Tryd.prog 74 #[.pointer (some ⟨w.heap.size, 0, none⟩)] encZ (fun ss => ss.Perm (intKeys D)) (Maps.size D) (w.alloc (.cells #[.map (some mb)] 89)) :=
    AnyZI.keys_gives (ρ := keysL_ren) { keysL with } Fence.wide _ trivial rfl (by omega) w.heap.size mb A.length D _ (by simp) (by simp) (by
      obtain ⟨es, clock, hb', Ft, hs, hD⟩ := hown
      exact ⟨es, clock, (Below.heap_alloc _ _ mb hb.hM.lt).trans hb', Ft, hs, hD⟩)
  have cK : ∀ b W, CallsIn Fence.wide 5 Tryd.prog 54 #[.map b] W fun e w' => e = .returned (.func (.func 74) #[] #[.pointer (some ⟨W.heap.size, 0, none⟩)]) ∧ w' = W.alloc (.cells #[.map b] 89) := fun b W => AnyZI.keys_in keysL Fence.wide 5 trivial rfl b W
  have cS := AnyZI.sorted_in sortedL Fence.wide 5 trivial trivial trivial trivial rfl (by omega) (sortsL _) (enters_of Tryd.func73 (by kernel_rfl) rfl) 74 #[.pointer (some ⟨w.heap.size, 0, none⟩)] trivial (enters_of Tryd.func74 (by kernel_rfl) rfl) _ _ (by rw [hsz]; unfold maxLen; omega) (by rw [hsz]; omega) _ hseq
  change CallsIn _ _ Tryd.prog 53 _ _ _ at cS
  have hkw := intKeys_wf hown Tryd.underlying3
  have hfin : ∀ ss : List Int, ss.Perm (intKeys D) → ((ss.mergeSort leI).Perm (m.acc.map (·.1)) ∧ (ss.mergeSort leI).Pairwise (· < ·)) ∧ ∀ x ∈ ss.mergeSort leI, (Lit.int .i64 x).wf = true := fun ss hs => ⟨sorted_strict (hs.trans hpa.symm) hnd, fun x hx => hkw x (hs.mem_iff.1 ((List.mergeSort_perm ss leI).mem_iff.1 hx))⟩
  have HF := Lib.hid hfin
  have HK := Lib.hid cK
  have HS := Lib.hid cS
  clear hb h hal hown hsz hperm hpa hseq cK cS hfin hkw ha1 hnd
  refine callsIn_of_wp Tryd.func15 rfl trivial ?_ rfl
  simp only [Tryd.ntmps15, List.size_toArray, List.length_cons, List.length_nil, Nat.reduceAdd, Nat.reduceSub, Array.replicate_succ, Array.replicate_zero, List.push_toArray, List.append_toArray, List.nil_append, List.cons_append]
  gi_wp2_with (first
    | (refine ⟨trivial, ?_⟩; gi_at_call 54; refine (HK.out _ _).mono ?_; rintro e w' ⟨rfl, rfl⟩)
    | (refine ⟨trivial, ?_⟩; gi_at_call 53; refine HS.out.mono ?_; rintro e w' ⟨v, ss, rfl, hS, hrow, hnil, hb⟩)
    | (gi_at_call 54; refine (HK.out _ _).mono ?_; rintro e w' ⟨rfl, rfl⟩)
    | (gi_at_call 53; refine HS.out.mono ?_; rintro e w' ⟨v, ss, rfl, hS, hrow, hnil, hb⟩))
  go_ret
  obtain ⟨⟨f1, f2⟩, f3⟩ := HF.out ss hS
  refine ⟨v, ss.mergeSort leI, rfl, f1, f2, f3, ?_, ((Below.refl _ _).alloc (Nat.le_refl _) _).trans (hb.mono (by simp))⟩
  rw [List.length_mergeSort]
  exact own_base hrow (by simp)
end Po
end Go.Proofs.YtpjimmdpcpcmoaaDoor
