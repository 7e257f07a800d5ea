import Derived.Test.YteekonojmpihlaaDoorQNmUse
import Derived.Test.YteekonojmpihlaaDoorQNmEe
import Derived.Test.YteekonojmpihlaaDoorQTreeCp
import Derived.Test.YteekonojmpihlaaDoorQJoin
/- Books in memory: the program's, the document's. -/
namespace Go.Proofs.YteekonojmpihlaaDoor
namespace Kt
end Kt
namespace St
end St
namespace Sp
end Sp
namespace Bk
end Bk
namespace Tr
end Tr
open Go Go.RowKit Kt St Sp Bk Tr
namespace Bo
abbrev snames (l : Bks) : List Value := l.map fun q => .string (Str q.1)
/-- The trees of a book, their rows beyond Z. -/
def Trs (w : World) (Z : List Nat) (Ts : Bks) : Prop := ∀ q ∈ Ts, Is w.heap.size w q.2 ∧ rgt q.2 = true ∧ Bl (· ∉ Z) q.2
theorem is_mod {w w' : World} {S : List Nat} {n : Nd} {Q : Nat → Prop} (h : Is w.heap.size w n) (hb : Bl Q n) (hM : Mod S w w') (hS : ∀ b ∈ S, ¬ Q b ∨ w.heap.size ≤ b) : Is w'.heap.size w' n :=
  Is.mono hM.size (Is.modB hM h (Bl.both hb (Is.bl h) fun q hq hl hqS => by rcases hS q hqS with h | h; exact h hq; omega))
theorem Trs.mod {w w' : World} {S Z : List Nat} {Ts : Bks} (h : Trs w Z Ts) (hM : Mod S w w') (hS : ∀ b ∈ S, b ∈ Z ∨ w.heap.size ≤ b) : Trs w' Z Ts := fun q hq => by
  obtain ⟨h1, h2, h3⟩ := h q hq
  exact ⟨is_mod h1 h3 hM (fun b hb => by rcases hS b hb with h | h; exact .inl (fun hn => hn h); exact .inr h), h2, h3⟩
theorem Trs.sub {w : World} {Z Z' : List Nat} {Ts : Bks} (h : Trs w Z Ts) (hZ : ∀ b ∈ Z', b ∈ Z ∨ w.heap.size ≤ b) : Trs w Z' Ts := fun q hq => by
  obtain ⟨h1, h2, h3⟩ := h q hq
  exact ⟨h1, h2, Bl.both h3 (Is.bl h1) fun b hb hl hz => by rcases hZ b hz with h | h; exact hb h; omega⟩
theorem Trs.good {w : World} {Z : List Nat} {Ts : Bks} (h : Trs w Z Ts) : ∀ p ∈ erB Ts, rgt p.2 = true := by
  intro p hp
  obtain ⟨q, hq, rfl⟩ := List.mem_map.1 hp
  rw [er_rgt]
  exact (h q hq).2.1
structure NB (w : World) (p : Nat) (g : Option Addr) (c mb n : Nat) (Ts : Bks) : Prop where
  hp : w.heap[p]? = some (.cells #[.slice g n c, .map (some mb)] 109 (0, 0))
  ho : w.ownsRow 0 9 1 (.slice g n c) n (snames Ts)
  hm : MapG Tryd.prog nv rdn ndw 9 nil0 w mb n Ts
  hn : Ts.length = n
  n1 : p ≠ mb
  n2 : ∀ b ∈ (Value.slice g n c).ownBlock.toList, b ≠ p ∧ b ≠ mb
  le : n ≤ 32
  nm : ∀ q ∈ Ts, Ac.nm q.1 = true
abbrev Lof (p mb : Nat) (g : Option Addr) (n c : Nat) : List Nat := p :: mb :: (Value.slice g n c).ownBlock.toList
/-- A book at p, with the blocks L, of the names and trees B; the trees' rows are none of X. -/
structure BK (w : World) (p : Nat) (L X : List Nat) (B : Bks) : Prop where
  ex : ∃ g c mb n Ts, NB w p g c mb n Ts ∧ L = Lof p mb g n c ∧ Trs w (L ++ X) Ts ∧ erB Ts = B
variable {w w' : World} {p q : Nat} {L X S : List Nat} {B M : Bks} {g : Option Addr} {c mb n : Nat} {Ts : Bks}
theorem NB.lts (h : NB w p g c mb n Ts) : ∀ b ∈ Lof p mb g n c, b < w.heap.size := by
  intro b hb
  simp only [List.mem_cons, Option.mem_toList] at hb
  rcases hb with rfl | rfl | hb
  · exact block_lt h.hp
  · exact h.hm.lt
  · exact (h.ho.lt b hb).2
theorem NB.mod (h : NB w p g c mb n Ts) (hM : Mod S w w') (hS : ∀ b ∈ S, b ∉ Lof p mb g n c) : NB w' p g c mb n Ts := by
  have hl := h.lts
  have hno : ∀ b ∈ Lof p mb g n c, b ∉ S := fun b hb hs => hS b hs hb
  exact ⟨(hM.block p (hl p (by simp)) (hno p (by simp))).trans h.hp, own_mod h.ho hM (fun k hk => hno k (by simp [hk])), h.hm.mod hM (hno mb (by simp)), h.hn, h.n1, h.n2, h.le, h.nm⟩
theorem BK.lts (h : BK w p L X B) : ∀ b ∈ L, b < w.heap.size := by
  obtain ⟨g, c, mb, n, Ts, h1, rfl, _⟩ := h.ex
  exact h1.lts
theorem BK.mod (h : BK w p L X B) (hM : Mod S w w') (hS : ∀ b ∈ S, (b ∈ X ∧ b ∉ L) ∨ w.heap.size ≤ b) : BK w' p L X B := by
  have hl := h.lts
  obtain ⟨g, c, mb, n, Ts, h1, rfl, h3, h4⟩ := h.ex
  refine ⟨g, c, mb, n, Ts, h1.mod hM (fun b hb hL => ?_), rfl, h3.mod hM (fun b hb => ?_), h4⟩
  · rcases hS b hb with h | h
    · exact h.2 hL
    · have := hl b hL; omega
  · rcases hS b hb with h | h
    · exact .inl (List.mem_append_right _ h.1)
    · exact .inr h
theorem BK.below (h : BK w p L X B) (hB : Below w.heap.size w w') : BK w' p L X B := h.mod (Mod.of_below hB []) (by simp)
theorem BK.len (h : BK w p L X B) : B.length ≤ 32 := by
  obtain ⟨g, c, mb, n, Ts, h1, rfl, h3, rfl⟩ := h.ex
  have := h1.le
  have := h1.hn
  simp [erB]
  omega
theorem BK.rgt (h : BK w p L X B) : ∀ x ∈ B, rgt x.2 = true := by
  obtain ⟨g, c, mb, n, Ts, h1, rfl, h3, rfl⟩ := h.ex
  exact h3.good
/-! ### The document's book -/
def dcells (x : List UInt8 × Nd) : List Value := .string (Str x.1) :: cells x.2
theorem dcells_len (x : List UInt8 × Nd) (h : x.2.set.length = 4) : (dcells x).length = 10 := by simp [dcells, cells_len _ h]
theorem dcells_one (x : List UInt8 × Nd) : ∀ u ∈ dcells x, u.oneCell' = true := by
  intro u hu
  simp only [dcells, List.mem_cons] at hu
  rcases hu with rfl | hu
  · rfl
  · exact cells_one x.2 u hu
structure RB (w : World) (q : Nat) (a : Option Addr) (c n : Nat) (X : List Nat) (Ts : Bks) : Prop where
  hq : w.heap[q]? = some (.cells #[.slice a n c] 41 (0, 0))
  hr : Rd w a (Ts.flatMap dcells)
  hn : Ts.length = n
  hc : n ≤ c ∧ c ≤ maxLen ∧ (a = none → c = 0)
  ha : ∀ p, a = some p → Ts ≠ [] → p.block ∉ q :: X
  le : n ≤ 32
  ht : Trs w (q :: X) Ts
theorem rd_mod {xs : List Value} {a : Option Addr} (h : Rd w a xs) (hM : Mod S w w') (hn : ∀ p, a = some p → xs ≠ [] → p.block < w.heap.size → p.block ∉ S) : Rd w' a xs := by
  by_cases hx : xs = []
  · subst hx; exact Rd.nil _ _
  · obtain ⟨p, hp, hl⟩ := h.lt hx
    exact Rd.mod h hM fun p' hp' => by rw [hp] at hp'; cases hp'; exact hn p hp hx hl
theorem dflat_ne {Ts : Bks} (h : Ts ≠ []) : Ts.flatMap dcells ≠ [] := by
  cases Ts with
  | nil => exact absurd rfl h
  | cons n r => simp [dcells]
theorem RB.mod {a : Option Addr} (h : RB w q a c n X Ts) (hM : Mod S w w') (hS : ∀ b ∈ S, b ∈ X ∧ b ≠ q ∨ w.heap.size ≤ b) : RB w' q a c n X Ts := by
  have hql := block_lt h.hq
  refine ⟨(hM.block q hql (fun hs => ?_)).trans h.hq, rd_mod h.hr hM (fun p hp hx hl hs => ?_), h.hn, h.hc, h.ha, h.le, h.ht.mod hM (fun b hb => ?_)⟩
  · rcases hS q hs with h | h
    · exact h.2 rfl
    · omega
  · have h1 := h.ha p hp (by rintro rfl; exact hx rfl)
    rcases hS _ hs with h | h
    · exact h1 (by simp [h.1])
    · omega
  · rcases hS b hb with h | h
    · exact .inl (by simp [h.1])
    · exact .inr h
/-- The document's book at q. -/
structure RK (w : World) (q : Nat) (X : List Nat) (M : Bks) : Prop where
  ex : ∃ a c n Ts, RB w q a c n X Ts ∧ erB Ts = M
theorem RK.mod (h : RK w q X M) (hM : Mod S w w') (hS : ∀ b ∈ S, b ∈ X ∧ b ≠ q ∨ w.heap.size ≤ b) : RK w' q X M := by
  obtain ⟨a, c, n, Ts, h1, h2⟩ := h.ex
  exact ⟨a, c, n, Ts, h1.mod hM hS, h2⟩
theorem RK.below (h : RK w q X M) (hB : Below w.heap.size w w') : RK w' q X M := h.mod (Mod.of_below hB []) (by simp)
theorem RK.lt (h : RK w q X M) : q < w.heap.size := by
  obtain ⟨a, c, n, Ts, h1, h2⟩ := h.ex
  exact block_lt h1.hq
theorem RB.at {a : Option Addr} (h : RB w q a c n X Ts) (j : Nat) (hj : j < Ts.length) :
    ∃ b off, a = some ⟨b, off, none⟩ ∧ ∀ i x, (dcells Ts[j])[i]? = some x → i < 10 → w.cell? ⟨b, off + (j * 10 + i), none⟩ = some x :=
  Rd.struct 10 h.hr (fun z hz => dcells_len z (h.ht z hz).1.len) j hj (by decide)
end Bo
end Go.Proofs.YteekonojmpihlaaDoor

/- The document's book: Find. -/
namespace Go.Proofs.YteekonojmpihlaaDoor
open Go Go.RowKit Kt St Sp Bk Tr
namespace Bo
theorem lkS_drop {l : Bks} {s : List UInt8} (k : Nat) (h : ∀ q ∈ l.take k, q.1 ≠ s) : lkS l s = lkS (l.drop k) s := by
  have h1 : (l.take k).find? (fun p => decide (p.1 = s)) = none := by
    rw [List.find?_eq_none]
    intro q hq
    simp [h q hq]
  have h2 : lkS l s = lkS (l.take k ++ l.drop k) s := by rw [List.take_append_drop]
  rw [h2]
  unfold lkS
  rw [List.find?_append, h1]
  rfl
theorem lkS_at {l : Bks} {s : List UInt8} (k : Nat) (hk : k < l.length) (h : ∀ q ∈ l.take k, q.1 ≠ s) (he : l[k].1 = s) : lkS l s = some l[k].2 := by
  rw [lkS_drop k h, List.drop_eq_getElem_cons hk]
  unfold lkS
  rw [List.find?_cons_of_pos (by simp [he])]
  rfl
theorem lkS_all {l : Bks} {s : List UInt8} (h : ∀ q ∈ l, q.1 ≠ s) : lkS l s = none := by
  rw [lkS_drop l.length (by rw [List.take_length]; exact h), List.drop_length]
  rfl
/-- What Find answers. -/
def FiP (Ts : Bks) (s : List UInt8) (r : Int) : Prop := (r = -1 ∧ lkS Ts s = none) ∨ ∃ (k : Nat) (hk : k < Ts.length), r = (k : Int) ∧ Ts[k].1 = s ∧ lkS Ts s = some Ts[k].2
set_option maxRecDepth 100000 in
set_option maxHeartbeats 4000000 in
theorem rfind_c (q : Nat) (a : Option Addr) (c n : Nat) (X : List Nat) (Ts : Bks) (s : List UInt8) (w : World) (h : RB w q a c n X Ts) :
    Calls Tryd.prog 19 #[.pointer (some ⟨q, 0, none⟩), .string (Str s)] w fun e w' => ∃ r : Int, e = .returned (.int .i64 r) ∧ FiP Ts s r ∧ Below w.heap.size w w' := by
  have k0 := cell_block h.hq 0
  simp only [List.getElem?_toArray, List.getElem?_cons_zero, List.getElem?_cons_succ] at k0
  have H := Lib.hid h
  have hle := h.le
  have hnn := h.hn
  clear h
  go_enter Tryd.func19, Tryd.ntmps19
  go_wp2
  clear k0
  go_loopw [12] (fun i W => ∃ j : Nat, j ≤ n ∧ i = .int .i64 (j : Int) ∧ Below w.heap.size w W ∧ ∀ q ∈ Ts.take j, q.1 ≠ s) (fun i _ => n - (intOf i).toNat)
  case atStart => exact ⟨0, Nat.zero_le _, rfl, Below.refl _ _, by simp⟩
  case round =>
    obtain ⟨j, hj, rfl, hbw, hno⟩ := hrel
    by_cases hjl : j < n
    · have hjk : j < Ts.length := by omega
      have hR := H.out.mod (Mod.of_below hbw []) (by simp)
      obtain ⟨b, off, rfl, hcs⟩ := hR.at j hjk
      have hset := (hR.ht _ (List.getElem_mem hjk)).1.len
      have hat := lkS_at (s := s) j hjk hno
      have hnx : Ts[j].1 ≠ s → ∀ q ∈ Ts.take (j + 1), q.1 ≠ s := fun hne q hq => by
        rw [List.take_add_one, List.getElem?_eq_getElem hjk, Option.toList_some] at hq
        rcases List.mem_append.1 hq with hq | hq
        · exact hno q hq
        · simp only [List.mem_singleton] at hq; rw [hq]; exact hne
      have hfi : Ts[j].1 = s → FiP Ts s (j : Int) := fun he => .inr ⟨j, hjk, rfl, he, hat he⟩
      obtain ⟨⟨nm, kid⟩, hkd⟩ : ∃ x, Ts[j] = x := ⟨_, rfl⟩
      rw [hkd] at hcs hset hnx hfi
      obtain ⟨y0, y1, y2, y3, hys⟩ := four' hset
      obtain ⟨kk, ksx, kmn, kmx, kt, ka, kc, kks⟩ := kid
      simp only [Nd.set] at hys
      subst hys
      have q0 := hcs 0 _ rfl (by omega)
      have q1 := hcs 1 _ rfl (by omega)
      have q2 := hcs 2 _ rfl (by omega)
      have q3 := hcs 3 _ rfl (by omega)
      have q4 := hcs 4 _ rfl (by omega)
      have q5 := hcs 5 _ rfl (by omega)
      have q6 := hcs 6 _ rfl (by omega)
      have q7 := hcs 7 _ rfl (by omega)
      have q8 := hcs 8 _ rfl (by omega)
      have q9 := hcs 9 _ rfl (by omega)
      simp only [← Nat.add_assoc, Nat.add_zero, Nd.kind, Nd.a, Nd.kids, Nd.cap, Nd.mn, Nd.mx, Nd.text] at q0 q1 q2 q3 q4 q5 q6 q7 q8 q9
      have HF := Lib.hid hfi
      have HX := Lib.hid hnx
      have HB := Lib.hid hbw
      clear hcs hset hnx hfi hat hkd hR hbw hno
      simp only at HF HX
      by_cases hs : nm = s
      · subst hs
        go_wp2
        go_ret
        exact ⟨_, rfl, HF.out (by first | trivial | rfl), HB.out.alloc HB.out.size _⟩
      · have hnb : ((Str nm).toList == (Str s).toList) = false := by rw [Str_list, Str_list]; simp [hs]
        go_wp2
        go_roundw
        case rel => exact ⟨j + 1, by omega, by go_num, HB.out.alloc HB.out.size _, HX.out hs⟩
        case measure => simp [intOf]; omega
    · obtain rfl : j = n := by omega
      have hfi : FiP Ts s (-1) := .inl ⟨rfl, lkS_all (by rw [List.take_of_length_le (by omega)] at hno; exact hno)⟩
      clear hno
      go_wp2
      go_ret
      exact ⟨_, rfl, hfi, hbw⟩
end Bo
end Go.Proofs.YteekonojmpihlaaDoor
