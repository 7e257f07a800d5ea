import Derived.Test.YteekonojmpihlaaDoorQTreeRfg
import Derived.Test.YteekonojmpihlaaDoorQTreeBnd
import Derived.Test.YteekonojmpihlaaDoorQJoin
import Derived.Test.YteekonojmpihlaaDoorQApp
import Derived.Test.YteekonojmpihlaaDoorQBuildM
import Derived.Test.YteekonojmpihlaaDoorQTreeDep
/- tree.within, (Node).joined: kids' texts. -/
namespace Go.Proofs.YteekonojmpihlaaDoor
open Go Go.RowKit Kt St Sp Bk
namespace Tr
set_option maxHeartbeats 1000000 in
set_option maxRecDepth 100000 in
theorem hasI_idx (a : Option Addr) (cap n : Nat) (l : List Int) (s : Int) (w : World) (hn : l.length = n) (h63 : n ≤ 9223372036854775807) (hr : Rd w a (i64s l)) :
    Calls Tryd.prog 152 #[.slice a n cap, .int .i64 s] w fun e w' => (∃ r : Int, e = .returned (.int .i64 r) ∧ (0 ≤ r ↔ s ∈ l)) ∧ w = w' := by
  go_enter Tryd.func152, Tryd.ntmps152
  go_wp2
  go_loopw [5, 8] (fun _ i W => ∃ k : Nat, k ≤ n ∧ i = .int .i64 k ∧ (∀ x ∈ l.take k, x ≠ s) ∧ w = W) (fun _ i _ => n - (intOf i).toNat)
  case atStart => exact ⟨0, Nat.zero_le _, rfl, by simp, rfl⟩
  case round =>
    obtain ⟨k, hk, rfl, hno, rfl⟩ := hrel
    by_cases hlt : k < n
    · have hkl : k < l.length := by omega
      obtain ⟨g, off, ha, hc⟩ := hr.i64 k hkl
      subst ha
      have hnx : l[k] ≠ s → ∀ x ∈ l.take (k + 1), x ≠ s := fun h x hx => by
        rw [← List.take_append_getElem hkl] at hx
        rcases List.mem_append.1 hx with h1 | h1
        · exact hno x h1
        · simp at h1; subst h1; exact h
      have hyes : l[k] = s → s ∈ l := fun h => h ▸ List.getElem_mem hkl
      have Hnx := Lib.hid hnx
      have Hyes := Lib.hid hyes
      clear hnx hyes hno
      generalize l[k] = x at *
      by_cases hv : x = s
      · have hy := Hyes.out hv
        subst hv
        have Hy := Lib.hid hy
        clear hy Hyes
        go_wp2
        go_ret
        exact ⟨⟨_, rfl, by simp [Hy.out]⟩, rfl⟩
      · have hvb : (s == x) = false := by simpa using fun h => hv h.symm
        have HV := Lib.hid (Hnx.out hv)
        clear hv Hnx Hyes
        go_wp2
        go_roundw
        case rel => exact ⟨k + 1, by omega, by go_num, HV.out, by first | trivial | rfl⟩
        case measure => simp [intOf]; omega
    · have hkn : k = n := by omega
      have ha : ¬ s ∈ l := fun h => by
        rw [List.take_of_length_le (by omega)] at hno
        exact hno s h rfl
      subst hkn
      have Ha := Lib.hid ha
      clear ha hno
      go_wp2
      go_ret
      exact ⟨⟨_, rfl, by simp [Ha.out]⟩, rfl⟩
set_option maxRecDepth 100000 in
theorem hasI_c (a : Option Addr) (cap n : Nat) (l : List Int) (s : Int) (w : World) (hn : l.length = n) (h63 : n ≤ 9223372036854775807) (hr : Rd w a (i64s l)) :
    Calls Tryd.prog 145 #[.slice a n cap, .int .i64 s] w fun e w' => e = .returned (.bool (decide (s ∈ l))) ∧ w = w' := by
  have hi := hasI_idx a cap n l s w hn h63 hr
  have HI := Lib.hid hi
  clear hi hr
  go_enter Tryd.func145, Tryd.ntmps145
  go_wp2_with fail
  refine HI.out.mono ?_
  rintro e w1 ⟨⟨r, rfl, h⟩, rfl⟩
  have hd : decide (s ∈ l) = decide (0 ≤ r) := decide_eq_decide.2 h.symm
  have HD := Lib.hid hd
  clear hd h
  go_wp2
  go_ret
  refine ⟨?_, rfl⟩
  rw [HD.out]
  first | rfl | (congr 2; done) | (simp; done)
/-- What text answers. -/
def TxP (n : Nd) (w : World) (e : Ending) (w' : World) : Prop := e = .returned (.string (Str (txt n))) ∧ Below w.heap.size w w'
/-- A node's block, cell by cell. -/
theorem nd_cells {W : World} {b T : Nat} {k : Int} {x0 x1 x2 x3 : Nat} {a : Option Addr} {nl c : Nat} {mn mx : Int} {t : List UInt8} {f : Nat × Nat}
    (h : W.heap[b]? = some (Obj.cells #[.int .i64 k, .int .u64 (x0 : Int), .int .u64 (x1 : Int), .int .u64 (x2 : Int), .int .u64 (x3 : Int), .slice a nl c, .int .i64 mn, .int .i64 mx, .string (Str t)] T f)) :
    W.cell? ⟨b, 0, none⟩ = some (.int .i64 k) ∧ W.cell? ⟨b, 1, none⟩ = some (.int .u64 (x0 : Int)) ∧ W.cell? ⟨b, 2, none⟩ = some (.int .u64 (x1 : Int)) ∧ W.cell? ⟨b, 3, none⟩ = some (.int .u64 (x2 : Int)) ∧ W.cell? ⟨b, 4, none⟩ = some (.int .u64 (x3 : Int)) ∧
    W.cell? ⟨b, 5, none⟩ = some (.slice a nl c) ∧ W.cell? ⟨b, 6, none⟩ = some (.int .i64 mn) ∧ W.cell? ⟨b, 7, none⟩ = some (.int .i64 mx) ∧ W.cell? ⟨b, 8, none⟩ = some (.string (Str t)) :=
  ⟨cell_block h 0, cell_block h 1, cell_block h 2, cell_block h 3, cell_block h 4, cell_block h 5, cell_block h 6, cell_block h 7, cell_block h 8⟩
set_option maxRecDepth 100000 in
set_option maxHeartbeats 2000000 in
/-- tree.within. -/
theorem within_c (n : Nd) (hs : n.set.length = 4) (p : Int) (l : List Int) (a : Option Addr) (m cap : Nat) (w : World) (hm : l.length = m) (hm6 : m ≤ 100) (hr : Rd w a (i64s l)) (hw : decide (n.kind ∈ l) = wraps p n.kind) (hl : (txt n).length ≤ 100000000)
    (hx : ∀ W, Below w.heap.size w W → Calls Tryd.prog 84 #[nv n] W (TxP n W)) :
    Calls Tryd.prog 134 #[nv n, .slice a m cap] w fun e w' => e = .returned (.string (Str (wtxt p n))) ∧ Below w.heap.size w w' := by
  obtain ⟨x0, x1, x2, x3, hs⟩ := four' hs
  have hwt : wtxt p n = if wraps p n.kind then 40 :: (txt n ++ [41]) else txt n := rfl
  have hi0 := fun (W : World) (h : Rd W a (i64s l)) => hasI_c a cap m l n.kind W hm (by omega) h
  rw [← hw] at hwt
  obtain ⟨bb, hbb⟩ : ∃ bb, decide (n.kind ∈ l) = bb := ⟨_, rfl⟩
  rw [hbb] at hwt hi0
  obtain ⟨X, hX⟩ : ∃ X, txt n = X := ⟨_, rfl⟩
  have hx : ∀ W, Below w.heap.size w W → Calls Tryd.prog 84 #[nv n] W fun e w' => e = .returned (.string (Str (txt n))) ∧ Below W.heap.size W w' := hx
  rw [hX] at hwt hl hx
  rw [hwt]
  obtain ⟨k, s, mn, mx, t, ka, c, ks⟩ := n
  simp only [Nd.set] at hs
  subst hs
  have hi0 : ∀ (W : World) (h : Rd W a (i64s l)), Calls Tryd.prog 145 #[.slice a m cap, .int .i64 k] W fun e w' => e = .returned (.bool bb) ∧ W = w' := hi0
  have hnv : nv (.mk k [x0, x1, x2, x3] mn mx t ka c ks) = .agg #[.int .i64 k, .int .u64 (x0 : Int), .int .u64 (x1 : Int), .int .u64 (x2 : Int), .int .u64 (x3 : Int), .slice ka ks.length c, .int .i64 mn, .int .i64 mx, .string (Str t)] := rfl
  rw [hnv] at hx ⊢
  clear hX hwt hw hnv hbb
  generalize ks.length = kl at *
  have hsz := heap_alloc_new w (.cells #[.int .i64 k, .int .u64 (x0 : Int), .int .u64 (x1 : Int), .int .u64 (x2 : Int), .int .u64 (x3 : Int), .slice ka kl c, .int .i64 mn, .int .i64 mx, .string (Str t)] 37)
  have hB := (Below.refl w.heap.size w).alloc (Nat.le_refl _) (.cells #[.int .i64 k, .int .u64 (x0 : Int), .int .u64 (x1 : Int), .int .u64 (x2 : Int), .int .u64 (x3 : Int), .slice ka kl c, .int .i64 mn, .int .i64 mx, .string (Str t)] 37)
  have hi := hi0 _ (hr.alloc (.cells #[.int .i64 k, .int .u64 (x0 : Int), .int .u64 (x1 : Int), .int .u64 (x2 : Int), .int .u64 (x3 : Int), .slice ka kl c, .int .i64 mn, .int .i64 mx, .string (Str t)] 37))
  have hx1 := hx _ hB
  obtain ⟨W1, hW1⟩ : ∃ W1, w.alloc (.cells #[.int .i64 k, .int .u64 (x0 : Int), .int .u64 (x1 : Int), .int .u64 (x2 : Int), .int .u64 (x3 : Int), .slice ka kl c, .int .i64 mn, .int .i64 mx, .string (Str t)] 37) = W1 := ⟨_, rfl⟩
  rw [hW1] at hsz hB hi hx1
  obtain ⟨z0, z1, z2, z3, z4, z5, z6, z7, z8⟩ := nd_cells hsz
  obtain ⟨Y, hY⟩ : ∃ Y, 40 :: X = Y := ⟨_, rfl⟩
  obtain ⟨Z, hZ⟩ : ∃ Z, 40 :: (X ++ [41]) = Z := ⟨_, rfl⟩
  have a1 : ∀ w, (Op.stringOp .add ⟨#[40]⟩ (Str X)).run Tryd.prog w = .ok (.string (Str Y)) w := add_to (a := [40]) (by simpa using hY) (by rw [← hY]; simp; omega)
  have a2 : ∀ w, (Op.stringOp .add (Str Y) ⟨#[41]⟩).run Tryd.prog w = .ok (.string (Str Z)) w := add_to (b := [41]) (by rw [← hY, ← hZ]; rfl) (by rw [← hZ]; simp; omega)
  rw [hZ]
  have HI := Lib.hid hi
  have HX := Lib.hid hx1
  have HB := Lib.hid hB
  have HW1 := Lib.hid hW1
  clear hi hi0 hx hx1 hB hW1 hsz hr hY hZ hl
  cases bb with
  | true =>
    simp only [reduceIte]
    go_enter Tryd.func134, Tryd.ntmps134
    go_wp2_with fail
    rw [HW1.out]
    refine HI.out.mono ?_
    rintro e w2 ⟨rfl, rfl⟩
    go_wp2_with fail
    refine HX.out.mono ?_
    rintro e w2 ⟨rfl, hb2⟩
    go_wp2
    go_ret
    exact ⟨rfl, HB.out.trans (hb2.mono HB.out.size)⟩
  | false =>
    simp only [reduceIte, Bool.false_eq_true]
    go_enter Tryd.func134, Tryd.ntmps134
    go_wp2_with fail
    rw [HW1.out]
    refine HI.out.mono ?_
    rintro e w2 ⟨rfl, rfl⟩
    go_wp2_with fail
    refine HX.out.mono ?_
    rintro e w2 ⟨rfl, hb2⟩
    go_wp2
    go_ret
    exact ⟨rfl, HB.out.trans (hb2.mono HB.out.size)⟩
theorem goods_len {B : Nat} {W : World} {ks : List Nd} (h : IsAll B W ks) : ∀ n ∈ ks, n.set.length = 4 := fun n hn => (Is.all h n hn).len
set_option maxRecDepth 100000 in
set_option maxHeartbeats 4000000 in
/-- (Node).joined: its kids' texts are at hand. -/
theorem joined_c (k : Int) (x0 x1 x2 x3 : Nat) (a : Option Addr) (ks : List Nd) (c : Nat) (mn mx : Int) (t : List UInt8) (p : Int) (sep : List UInt8) (l : List Int) (g m cap : Nat) (w : World)
    (hl : l.length = m) (hm6 : m ≤ 100) (hr : Rd w (some ⟨g, 0, none⟩) (i64s l)) (hw : ∀ n ∈ ks, decide (n.kind ∈ l) = wraps p n.kind) (h0 : ks ≠ []) (h600 : ks.length ≤ 600)
    (hIs : Is w.heap.size w (.mk k [x0, x1, x2, x3] mn mx t a c ks)) (hlen : ∀ n ∈ ks, (txt n).length ≤ 10000000) (hj : (Lib.join (txts p ks) sep).length ≤ 10000000)
    (hx : ∀ n ∈ ks, ∀ W, Below w.heap.size w W → Calls Tryd.prog 84 #[nv n] W (TxP n W)) :
    Calls Tryd.prog 114 #[.agg #[.int .i64 k, .int .u64 (x0 : Int), .int .u64 (x1 : Int), .int .u64 (x2 : Int), .int .u64 (x3 : Int), .slice a ks.length c, .int .i64 mn, .int .i64 mx, .string (Str t)], .string (Str sep), .slice (some ⟨g, 0, none⟩) m cap] w
      fun e w' => e = .returned (.string (Str (Lib.join (txts p ks) sep))) ∧ Below w.heap.size w w' := by
  have hsz := heap_alloc_new w (.cells #[.int .i64 k, .int .u64 (x0 : Int), .int .u64 (x1 : Int), .int .u64 (x2 : Int), .int .u64 (x3 : Int), .slice a ks.length c, .int .i64 mn, .int .i64 mx, .string (Str t)] 37)
  have hB := (Below.refl w.heap.size w).alloc (Nat.le_refl _) (.cells #[.int .i64 k, .int .u64 (x0 : Int), .int .u64 (x1 : Int), .int .u64 (x2 : Int), .int .u64 (x3 : Int), .slice a ks.length c, .int .i64 mn, .int .i64 mx, .string (Str t)] 37)
  obtain ⟨W1, hW1⟩ : ∃ W1, w.alloc (.cells #[.int .i64 k, .int .u64 (x0 : Int), .int .u64 (x1 : Int), .int .u64 (x2 : Int), .int .u64 (x3 : Int), .slice a ks.length c, .int .i64 mn, .int .i64 mx, .string (Str t)] 37) = W1 := ⟨_, rfl⟩
  have hs1 : W1.heap.size = w.heap.size + 1 := by rw [← hW1]; simp
  rw [hW1] at hsz hB
  have z5 := cell_block (i := 5) (show _ = some (Obj.cells _ _ _) from hsz)
  simp only [List.getElem?_toArray, List.getElem?_cons_zero, List.getElem?_cons_succ] at z5
  obtain ⟨_, hkc, hcm, _, hrd, _, hall⟩ := id hIs
  have hset := goods_len hall
  obtain ⟨nl, hnl⟩ : ∃ nl, ks.length = nl := ⟨_, rfl⟩
  rw [hnl] at hW1 z5 h600 ⊢
  have hts : (txts p ks).length = nl := by rw [txts_eq, List.length_map, hnl]
  obtain ⟨X, hX⟩ : ∃ X, Lib.join (txts p ks) sep = X := ⟨_, rfl⟩
  -- behind the loop
  have hjoin : ∀ (W : World) (v : Value), W.ownsRow W1.heap.size 9 1 v nl ((txts p ks).map fun t => .string (Str t)) → ∃ av cv, v = .slice av nl cv ∧ Calls Tryd.prog 135 #[.slice av nl cv, .string (Str sep)] W fun e w' => e = .returned (.string (Str X)) ∧ Below W.heap.size W w' := fun W v hown => by
    obtain ⟨av, cv, rfl, h1, h2, h3, _⟩ := rd_own hown
    exact ⟨av, cv, rfl, hX ▸ joinS_c (txts p ks) sep hts h3 (by intro h; rw [h] at hts; simp at hts; rw [← hnl] at hts; exact h0 (List.length_eq_zero_iff.1 hts.symm)) h1 (by omega) (by omega)⟩
  have HJ := Lib.hid hjoin
  have HW1 := Lib.hid hW1
  have HB := Lib.hid hB
  have HR := Lib.hid hr
  have HC := Lib.hid (And.intro hrd (And.intro hset hall))
  have HX := Lib.hid hx
  have HWr := Lib.hid hw
  have HL := Lib.hid (And.intro hlen hnl)
  have HT := Lib.hid hts
  have HS1 := Lib.hid hs1
  rw [hX]
  clear hjoin hW1 hB hr hrd hset hall hx hw hlen hts hIs hj hX h0 hnl hsz hkc hs1
  go_enter Tryd.func114, Tryd.ntmps114
  go_wp2_with fail
  rw [HW1.out]
  clear z5
  go_loopw [7, 13] (fun parts i W => ∃ j : Nat, j ≤ nl ∧ i = .int .i64 (j : Int) ∧ W.ownsRow W1.heap.size 9 1 parts j (((txts p ks).take j).map fun t => .string (Str t)) ∧ Below W1.heap.size W1 W) (fun _ i _ => nl - (intOf i).toNat)
  case atStart => exact ⟨0, Nat.zero_le _, rfl, World.ownsRow_nil _ _ _ _, Below.refl _ _⟩
  case round =>
    obtain ⟨j, hj, rfl, hown, hbj⟩ := hrel
    by_cases hjl : j < nl
    · have hjk : j < ks.length := by rw [HL.out.2]; exact hjl
      have hin : ks[j] ∈ ks := List.getElem_mem hjk
      obtain ⟨hrd, hset, hall⟩ := HC.out
      have bw : Below w.heap.size w wr := HB.out.trans (hbj.mono HB.out.size)
      have hrd2 : Rd wr a (ks.flatMap cells) := hrd.keep bw
      obtain ⟨b, off, rfl, hcs⟩ := kid_at hrd2 hset j hjk
      have hkid := hset _ hin
      have hwi := fun (W : World) (hb : Below w.heap.size w W) (h : Rd W (some ⟨g, 0, none⟩) (i64s l)) => within_c ks[j] hkid p l (some ⟨g, 0, none⟩) m cap W hl hm6 h (HWr.out _ hin) (by have := HL.out.1 _ hin; omega) (fun W2 hb2 => HX.out _ hin W2 (hb.trans (hb2.mono (show w.heap.size ≤ W.heap.size from hb.size))))
      have htk : (txts p ks).take (j + 1) = (txts p ks).take j ++ [wtxt p ks[j]] := by
        rw [List.take_succ_eq_append_getElem (by rw [HT.out]; exact hjl)]
        congr 2
        simp [txts_eq]
      obtain ⟨kid, hkd⟩ : ∃ kid, ks[j] = kid := ⟨_, rfl⟩
      rw [hkd] at hcs hkid hwi htk
      obtain ⟨y0, y1, y2, y3, hys⟩ := four' hkid
      obtain ⟨Y, hY⟩ : ∃ Y, wtxt p kid = Y := ⟨_, rfl⟩
      rw [hY] at hwi htk
      obtain ⟨kk, ksx, kmn, kmx, kt, ka, kc, kks⟩ := kid
      simp only [Nd.set] at hys
      subst hys
      have q0 := hcs 0 _ rfl (by omega)
      have q1 := hcs 1 _ rfl (by omega)
      have q2 := hcs 2 _ rfl (by omega)
      have q3 := hcs 3 _ rfl (by omega)
      have q4 := hcs 4 _ rfl (by omega)
      have q5 := hcs 5 _ rfl (by omega)
      have q6 := hcs 6 _ rfl (by omega)
      have q7 := hcs 7 _ rfl (by omega)
      have q8 := hcs 8 _ rfl (by omega)
      simp only [← Nat.add_assoc, Nat.add_zero, Nd.kind, Nd.a, Nd.kids, Nd.cap, Nd.mn, Nd.mx, Nd.text] at q0 q1 q2 q3 q4 q5 q6 q7 q8
      have hnv : nv (.mk kk [y0, y1, y2, y3] kmn kmx kt ka kc kks) = .agg #[.int .i64 kk, .int .u64 (y0 : Int), .int .u64 (y1 : Int), .int .u64 (y2 : Int), .int .u64 (y3 : Int), .slice ka kks.length kc, .int .i64 kmn, .int .i64 kmx, .string (Str kt)] := rfl
      rw [hnv] at hwi
      obtain ⟨kl, hkl⟩ : ∃ kl, kks.length = kl := ⟨_, rfl⟩
      rw [hkl] at hwi q5
      obtain ⟨W5, hW5⟩ : ∃ W5, wr.alloc (.cells #[.int .i64 kk, .int .u64 (y0 : Int), .int .u64 (y1 : Int), .int .u64 (y2 : Int), .int .u64 (y3 : Int), .slice ka kl kc, .int .i64 kmn, .int .i64 kmx, .string (Str kt)] 37) = W5 := ⟨_, rfl⟩
      have b5 : Below wr.heap.size wr W5 := by rw [← hW5]; exact (Below.refl _ _).alloc (Nat.le_refl _) _
      have bw5 : Below w.heap.size w W5 := bw.trans (b5.mono bw.size)
      have hwi5 := hwi W5 bw5 (HR.out.keep bw5)
      have own5 := own_keep hown b5
      have HWi := Lib.hid hwi5
      have HO5 := Lib.hid own5
      have HB5 := Lib.hid (hbj.trans (b5.mono hbj.size))
      have HW5 := Lib.hid hW5
      have HTk := Lib.hid htk
      have hz1 : w.heap.size ≤ W1.heap.size := HB.out.size
      have HZ1 := Lib.hid hz1
      clear hwi hwi5 own5 hown hbj bw bw5 b5 hW5 hkl hnv hcs hkd hkid hin hrd hset hall hrd2 htk hY hz1
      go_wp2_with fail
      rw [HW5.out]
      refine HWi.out.mono ?_
      rintro e w6 ⟨rfl, hb6⟩
      have own6 := own_keep HO5.out hb6
      have b7 := (Below.refl w6.heap.size w6).alloc (Nat.le_refl _) (.cells #[.string (Str Y)] 9)
      have hrn : Rd (w6.alloc (.cells #[.string (Str Y)] 9)) (some ⟨w6.heap.size, 0, none⟩) [.string (Str Y)] := Rd.new w6 #[.string (Str Y)] 9 (0, 0) _ rfl
      have hs6 : W1.heap.size ≤ w6.heap.size := Nat.le_trans HB5.out.size hb6.size
      obtain ⟨v8, w8, hrun, own8, gr8, _⟩ := elStr.append W1.heap.size (ty := 38) (own_keep own6 b7) 1 1 rfl hrn (fun h => by cases h) (by simp [Value.oneCell']) (by unfold maxLen; omega) (by omega) (by simp; omega)
      have hB8 : Below W1.heap.size W1 w8 := ((HB5.out.trans (hb6.mono HB5.out.size)).trans (b7.mono hs6)).trans (below_grown (own_keep own6 b7) gr8 (Nat.le_refl _) (by simp; omega))
      have HO8 := Lib.hid own8
      have HB8 := Lib.hid hB8
      clear hb6 own6 b7 hrn hs6 own8 gr8 hB8
      go_wp2_with (at_builtin; (with_reducible apply wpList_append_run hrun); rfl; rfl; rfl; rfl; rfl)
      go_roundw
      case rel => exact ⟨j + 1, by omega, by go_num, by rw [HTk.out, List.map_append]; exact HO8.out, HB8.out⟩
      case measure => simp [intOf]; omega
    · obtain rfl : j = nl := by omega
      rw [List.take_of_length_le (by rw [HT.out]; exact Nat.le_refl _)] at hown
      obtain ⟨av, cv, rfl, hc⟩ := HJ.out _ _ hown
      have HC2 := Lib.hid hc
      have HB2 := Lib.hid hbj
      clear hown hc hbj
      go_wp2_with fail
      refine HC2.out.mono ?_
      rintro e w2 ⟨rfl, hb2⟩
      go_wp2
      go_ret
      exact ⟨rfl, (HB.out.trans (HB2.out.mono HB.out.size)).trans (hb2.mono (by have := HB2.out.size; have := HB.out.size; omega))⟩
end Tr
end Go.Proofs.YteekonojmpihlaaDoor
