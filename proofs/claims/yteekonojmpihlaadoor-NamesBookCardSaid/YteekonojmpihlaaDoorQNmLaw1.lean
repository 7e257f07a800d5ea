import Derived.Test.YteekonojmpihlaaDoorQNmBooks
import Derived.Test.YteekonojmpihlaaDoorQNmAlive
import Derived.Test.YteekonojmpihlaaDoorQSameT
import Derived.Test.YteekonojmpihlaaDoorQTreeRs
/- The law NamesBook's walk. Printed by gen_nmlaw1.py. Condition: the sentinels read as laid. -/
namespace Go.Proofs.YteekonojmpihlaaDoor
namespace Kt
end Kt
namespace St
end St
namespace Sp
end Sp
namespace Bk
end Bk
namespace Tr
end Tr
open Go Go.RowKit Kt St Sp Bk Tr
namespace Bo
/-- The tree that is put under the copy's own name. -/
def catN : Nd := .mk 2 [0, 0, 0, 0] 0 0 [] none 0 []
theorem walk_catN : walk catN = [(catN, 1)] := by simp [walk, catN, full, fulls]
theorem text_catN : ∀ y ∈ walk catN, y.1.text.length ≤ 9223372036854775807 := by
  intro y hy
  rw [walk_catN] at hy
  simp only [List.mem_singleton] at hy
  subst hy
  simp [catN, Nd.text]
theorem is_catN (w : World) : Is w.heap.size w catN := ⟨rfl, Nat.le_refl _, by decide, fun _ => rfl, Rd.nil _ _, (fun p hp => by cases hp), trivial⟩
theorem bl_catN (P : Nat → Prop) : Bl P catN := ⟨fun p hp => (by cases hp), trivial⟩
set_option maxRecDepth 100000 in
set_option maxHeartbeats 2000000 in
theorem book_law (E : Nat → Addr) (la : Option Addr) (lc n : Nat) (ds : Bks) (ask : List UInt8) (hask : ask.length ≤ 9223372036854775807) (w : World) (hn : ds.length = n) (hr : Rd w la (ds.flatMap dcells)) (hd : ∀ x ∈ ds, Is w.heap.size w x.2 ∧ tl x.2 ∧ x.1.length ≤ 9223372036854775807) (hse : Sent 204 w E Er.egs) (hn63 : n ≤ 9223372036854775807) :
    Calls Tryd.prog 3 #[.slice la n lc, .string (Str ask)] w fun e w' => e = .returned (.bool true) ∧ Below w.heap.size w w' := by
  have hal := alive_c E w hse
  have hbo := fun (W : World) (hb : Below w.heap.size w W) => books_c E la lc n ds W hn (hr.keep hb) (fun x hx => ⟨Is.mono hb.size (Is.below hb (hd x hx).1), (hd x hx).2⟩) (hse.keep hb) hn63
  have HAl := Lib.hid hal
  have HBo := Lib.hid hbo
  have HSe := Lib.hid hse
  clear hal hbo hn hr hd hse
  go_enter Tryd.func3, Tryd.ntmps3
  go_wp2_with fail
  with_reducible refine HAl.out.mono ?_
  rintro e w1 ⟨rfl, hb1⟩
  go_wp2_with fail
  with_reducible refine (HBo.out w1 hb1).mono ?_
  rintro e w2 (⟨rfl, hb2⟩ | ⟨p, q, L, B, rfl, hBR⟩)
  · have hfin := hb1.trans (hb2.mono hb1.size)
    have HFin := Lib.hid hfin
    clear hfin hb1 hb2
    go_wp2
    go_ret
    exact ⟨rfl, HFin.out⟩
  · by_cases h100 : 100 < ask.length
    · have hfin := hb1.trans (hBR.hb.mono hb1.size)
      have HFin := Lib.hid hfin
      have g1 : (100 : Int) < ((Str ask).size : Int) := by rw [Str_size]; omega
      have g2 : (100 : Int) < ((ask.length : Nat) : Int) := by omega
      clear hfin hb1 hBR
      go_wp2
      go_ret
      exact ⟨rfl, HFin.out⟩
    · have g1 : ¬ (100 : Int) < ((Str ask).size : Int) := by rw [Str_size]; omega
      have g2 : ¬ (100 : Int) < ((ask.length : Nat) : Int) := by omega
      have hB2 : Below w.heap.size w w2 := hb1.trans (hBR.hb.mono hb1.size)
      have hcp := copy_c p L [q] B w2 hBR.bk
      have HCp := Lib.hid hcp
      have HBR := Lib.hid (And.intro hBR hB2)
      clear hcp hBR hB2 hb1
      go_wp2_with fail
      with_reducible refine HCp.out.mono ?_
      rintro e w3 ⟨p3, L3, rfl, bk3, hL3, hb3⟩
      obtain ⟨hBR, hB2⟩ := HBR.out
      have hq3 : q < w3.heap.size := Nat.lt_of_lt_of_le hBR.rk.lt hb3.size
      have hB3 := hB2.trans (hb3.mono hB2.size)
      have hadd := add_c E p3 L3 [q] B [99, 111, 112, 105, 101, 100] (by decide) catN text_catN w3 (is_catN w3) (bl_catN _) bk3 (fun b hb => by simp at hb; omega) (HSe.out.keep hB3)
      have hcn : nv catN = .agg #[.int .i64 2, .int .u64 0, .int .u64 0, .int .u64 0, .int .u64 0, .slice none 0 0, .int .i64 0, .int .i64 0, .string ⟨#[]⟩] := rfl
      rw [hcn, show Str [99, 111, 112, 105, 101, 100] = ⟨#[99, 111, 112, 105, 101, 100]⟩ from rfl] at hadd
      have HAdd := Lib.hid hadd
      have H3 := Lib.hid (And.intro hb3 (And.intro hL3 hB3))
      clear hadd hcn bk3 hB3 hb3 hL3 hBR hB2 hq3
      go_wp2_with fail
      with_reducible refine HAdd.out.mono ?_
      rintro e w4 ⟨rfl, L4, _, m4, _⟩
      obtain ⟨hBR, hB2⟩ := HBR.out
      obtain ⟨hb3, hL3, hB3⟩ := H3.out
      have hb24 : Below w2.heap.size w2 w4 := hb3.trans (m4.toBelow hb3.size hL3)
      have hBR4 := hBR.below hb24
      have hB4 := hB2.trans (hb24.mono hB2.size)
      obtain ⟨W5, hW5⟩ : ∃ W5, w4.alloc (.cells #[] 9) = W5 := ⟨_, rfl⟩
      have b5 : Below w4.heap.size w4 W5 := by rw [← hW5]; exact (Below.refl _ _).alloc (Nat.le_refl _) _
      have own5 : W5.ownsRow w4.heap.size 9 1 (.slice (some ⟨w4.heap.size, 0, none⟩) 0 0) 0 [] := by rw [← hW5]; exact World.ownsRow_made (base := w4.heap.size) (e := 9) (size := 1) w4 #[] 0 (Nat.le_refl _) (by decide) rfl
      obtain ⟨ra, rc, rn, Ts, hRB, hTs⟩ := hBR4.rk.ex
      subst hTs
      have k0 := cell_block (hRB.mod (Mod.of_below b5 []) (by simp)).hq 0
      simp only [List.getElem?_toArray, List.getElem?_cons_zero, List.getElem?_cons_succ] at k0
      have hz5 := b5.size
      have HW5 := Lib.hid hW5
      have H5 := Lib.hid (And.intro own5 (And.intro hBR4 (And.intro hB4 (And.intro hRB b5))))
      have hrn6 := hRB.le
      clear hW5 own5 hRB hBR4 hB4 b5 hz5 hb24 hb3 hL3 hB3 hBR hB2 m4 H3 HAdd HCp HAl HBo
      go_upto_region 9 with (fail)
      rw [HW5.out]
      go_wp2_with fail
      clear k0
      go_loopw [9, 45] (fun v i W => ∃ (j : Nat) (a : Option Addr) (c : Nat), j ≤ rn ∧ i = .int .i64 (j : Int) ∧ v = .slice a j c ∧ W.ownsRow w4.heap.size 9 1 (.slice a j c) j (snames (Ts.take j)) ∧ Below w4.heap.size w4 W) (fun _ i _ => rn - (intOf i).toNat)
      case atStart => exact ⟨0, _, _, Nat.zero_le _, rfl, rfl, H5.out.1, H5.out.2.2.2.2⟩
      case round =>
        obtain ⟨j, sa, sc, hj, rfl, rfl, hown, hbw⟩ := hrel
        by_cases hjl : j < rn
        · obtain ⟨_, hBR5, hB5, hRB, _⟩ := H5.out
          have hjk : j < Ts.length := by rw [hRB.hn]; exact hjl
          have hRBr := hRB.mod (Mod.of_below hbw []) (by simp)
          obtain ⟨b, off, rfl, hcs⟩ := hRBr.at j hjk
          have hset := (hRBr.ht _ (List.getElem_mem hjk)).1.len
          have hsn : snames (Ts.take (j + 1)) = snames (Ts.take j) ++ [.string (Str Ts[j].1)] := by rw [List.take_add_one, List.getElem?_eq_getElem hjk, Option.toList_some, snames, List.map_append]; rfl
          obtain ⟨⟨nm, kid⟩, hkd⟩ : ∃ x, Ts[j] = x := ⟨_, rfl⟩
          rw [hkd] at hcs hset hsn
          obtain ⟨y0, y1, y2, y3, hys⟩ := four' hset
          obtain ⟨kk, ksx, kmn, kmx, kt, ka, kc, kks⟩ := kid
          simp only [Nd.set] at hys
          subst hys
          have q0 := hcs 0 _ rfl (by omega)
          have q1 := hcs 1 _ rfl (by omega)
          have q2 := hcs 2 _ rfl (by omega)
          have q3 := hcs 3 _ rfl (by omega)
          have q4 := hcs 4 _ rfl (by omega)
          have q5 := hcs 5 _ rfl (by omega)
          have q6 := hcs 6 _ rfl (by omega)
          have q7 := hcs 7 _ rfl (by omega)
          have q8 := hcs 8 _ rfl (by omega)
          have q9 := hcs 9 _ rfl (by omega)
          simp only [← Nat.add_assoc, Nat.add_zero, Nd.kind, Nd.a, Nd.kids, Nd.cap, Nd.mn, Nd.mx, Nd.text] at q0 q1 q2 q3 q4 q5 q6 q7 q8 q9
          obtain ⟨kl, hkl⟩ : ∃ kl, kks.length = kl := ⟨_, rfl⟩
          rw [hkl] at q6
          obtain ⟨W7, hW7⟩ : ∃ W7, wr.alloc (.cells #[.string (Str nm), .int .i64 kk, .int .u64 (y0 : Int), .int .u64 (y1 : Int), .int .u64 (y2 : Int), .int .u64 (y3 : Int), .slice ka kl kc, .int .i64 kmn, .int .i64 kmx, .string (Str kt)] 46) = W7 := ⟨_, rfl⟩
          have b7 : Below wr.heap.size wr W7 := by rw [← hW7]; exact (Below.refl _ _).alloc (Nat.le_refl _) _
          have s7 : W7.heap[wr.heap.size]? = some (.cells #[.string (Str nm), .int .i64 kk, .int .u64 (y0 : Int), .int .u64 (y1 : Int), .int .u64 (y2 : Int), .int .u64 (y3 : Int), .slice ka kl kc, .int .i64 kmn, .int .i64 kmx, .string (Str kt)] 46 (0, 0)) := by rw [← hW7]; exact heap_alloc_new wr _
          have o0 : W7.cell? ⟨wr.heap.size, 0, none⟩ = some (.string (Str nm)) := cell_block s7 0
          have hb57 : Below w4.heap.size w4 W7 := hbw.trans (b7.mono hbw.size)
          have b8 : Below W7.heap.size W7 (W7.alloc (.cells #[.string (Str nm)] 9)) := (Below.refl _ _).alloc (Nat.le_refl _) _
          have hb58 := hb57.trans (b8.mono hb57.size)
          have own8 := own_keep (own_keep hown b7) b8
          obtain ⟨v', w9, hrun, own9, gr9, _⟩ := elStr.append w4.heap.size (ty := 38) own8 1 1 (news := [.string (Str nm)]) rfl (Rd.new W7 #[.string (Str nm)] 9 (0, 0) [.string (Str nm)] rfl) (fun h => by cases h) (by intro u hu; simp at hu; subst hu; rfl) (by unfold maxLen; omega) (by omega) hb58.size
          rw [← hsn] at own9
          obtain ⟨sa', sc', rfl, _⟩ := rd_own own9
          have hm9 : Below w4.heap.size w4 w9 := hb58.trans (below_grown own8 gr9 (Nat.le_refl _) hb58.size)
          have HO := Lib.hid own9
          have HB9 := Lib.hid hm9
          have HW7 := Lib.hid hW7
          have hjl2 : (j : Int) < (rn : Int) := by omega
          clear own9 hm9 hW7 gr9 own8 hb58 b8 hb57 s7 b7 hkl hset hsn hkd hcs hRBr hRB hBR5 hB5 hown hbw
          go_upto_region 12 with (fail)
          rw [HW7.out]
          clear q0 q1 q2 q3 q4 q5 q6 q7 q8 q9
          go_wp2_with (at_builtin; (with_reducible apply wpList_append_run hrun); rfl; rfl; rfl; rfl; rfl)
          go_roundw
          case rel => exact ⟨j + 1, sa', sc', by omega, by go_num, rfl, HO.out, HB9.out⟩
          case measure => simp [intOf]; omega
        · obtain rfl : j = rn := by omega
          obtain ⟨_, hBR4, hB4, hRB, _⟩ := H5.out
          have hts : Ts.take j = Ts := List.take_of_length_le (by rw [hRB.hn]; exact Nat.le_refl _)
          rw [hts] at hown
          have hBRr := hBR4.below hbw
          have hBr := hB4.trans (hbw.mono hB4.size)
          have hget := get_c p L [q] (erB Ts) ask hask wr hBRr.bk
          have HGet := Lib.hid hget
          have HR := Lib.hid (And.intro hBRr (And.intro hBr (And.intro hown (hRB.mod (Mod.of_below hbw []) (by simp)))))
          have hjl2 : ¬ (j : Int) < (j : Int) := by omega
          clear hget hBRr hBr hown hbw hRB hB4 hBR4 hts
          go_wp2_with fail
          with_reducible refine HGet.out.mono ?_
          rintro e w6 ⟨m, rfl, hme, hm0, hmi, hb6⟩
          obtain ⟨hBRr, hBr, hown, hRB⟩ := HR.out
          obtain ⟨v0, v1, v2, v3, hvs⟩ := four' hmi.len
          obtain ⟨k', mn', mx', a', nl', c', t', hnv, hcl⟩ := nv_explicit hvs
          obtain ⟨W7, hW7⟩ : ∃ W7, w6.alloc (.cells #[.int .i64 k', .int .u64 (v0 : Int), .int .u64 (v1 : Int), .int .u64 (v2 : Int), .int .u64 (v3 : Int), .slice a' nl' c', .int .i64 mn', .int .i64 mx', .string (Str t')] 37) = W7 := ⟨_, rfl⟩
          have b7 : Below w6.heap.size w6 W7 := by rw [← hW7]; exact (Below.refl _ _).alloc (Nat.le_refl _) _
          have s7 : W7.heap[w6.heap.size]? = some (.cells #[.int .i64 k', .int .u64 (v0 : Int), .int .u64 (v1 : Int), .int .u64 (v2 : Int), .int .u64 (v3 : Int), .slice a' nl' c', .int .i64 mn', .int .i64 mx', .string (Str t')] 37 (0, 0)) := by rw [← hW7]; exact heap_alloc_new w6 _
          have hb7 : Below wr.heap.size wr W7 := hb6.trans (b7.mono hb6.size)
          have hmi7 : Is W7.heap.size W7 m := Is.mono b7.size (Is.below b7 hmi)
          have hRB7 := hRB.mod (Mod.of_below hb7 []) (by simp)
          have hfi := rfind_c q ra rc j ([] ++ L) Ts ask W7 (by simpa using hRB7)
          obtain ⟨bo, hbo⟩ : ∃ bo, (lkS (erB Ts) ask).isSome = bo := ⟨_, rfl⟩
          rw [hnv, hbo]
          have HFi := Lib.hid hfi
          have HW7 := Lib.hid hW7
          have H7 := Lib.hid (And.intro s7 (And.intro hb7 (And.intro hmi7 (And.intro hme (And.intro hm0 (And.intro hnv hbo))))))
          clear hfi hW7 s7 hb7 hmi7 hme hm0 hnv hbo hRB7 hRB hBRr hBr hown b7 hmi hb6 hvs hcl HGet
          go_upto_region 15 with (fail)
          rw [HW7.out]
          go_wp2_with fail
          with_reducible refine HFi.out.mono ?_
          rintro e w8 ⟨r, rfl, hfp, hb8⟩
          obtain ⟨s7, hb7, hmi7, hme, hm0, hnv, hbo⟩ := H7.out
          obtain ⟨hBRr, hBr, hown, hRB⟩ := HR.out
          have hb78 := hb7.trans (hb8.mono hb7.size)
          have hall := all_c p L [q] (erB Ts) w8 (hBRr.below hb78).bk
          have hln : (erB Ts).length = j := by simp [erB, hRB.hn]
          have hsn2 : snames (erB Ts) = (Ts.map (·.1)).map fun t => .string (Str t) := by simp [snames, erB]
          have hsn3 : snames Ts = (Ts.map (·.1)).map fun t => .string (Str t) := by simp [snames]
          rw [hln, hsn2] at hall
          rw [hsn3] at hown
          have hlm : (Ts.map (·.1)).length = j := by simp [hRB.hn]
          have hst : ∀ (V V' : World) (aa : Option Addr) (ca : Nat), Below wr.heap.size wr V → V.ownsRow V'.heap.size 9 1 (.slice aa j ca) j ((Ts.map (·.1)).map fun t => .string (Str t)) → Calls Tryd.prog 20 #[.slice aa j ca, .slice sa j sc] V fun e w' => e = .returned (.bool true) ∧ ∃ n, V.drewN n = w' := fun V V' aa ca hb ho => by
            have := Sm.sameT_c aa sa ca sc j j (Ts.map (·.1)) (Ts.map (·.1)) V hlm hlm (by omega) (Rd.own ho) ((Rd.own hown).keep hb)
            rw [decide_eq_true rfl] at this
            exact this
          have s78 := (hb8.block _ (block_lt s7)).trans s7
          obtain ⟨u0, u1, u2, u3, u4, u5, u6, u7, u8⟩ := nd_cells s78
          have HAll := Lib.hid hall
          have HSt := Lib.hid hst
          have H8 := Lib.hid (And.intro hb78 (And.intro (hBr.trans (hb78.mono hBr.size)) (And.intro s78 (Is.mono hb8.size (Is.below hb8 hmi7)))))
          cases bo with
          | false =>
            have hnone : lkS (erB Ts) ask = none := by simpa using hbo
            have hrm : r = -1 := by
              rcases hfp with ⟨h, _⟩ | ⟨k, hk, _, _, h⟩
              · exact h
              · rw [lkS_er, h] at hnone; cases hnone
            subst hrm
            clear hall hst hfp hb8 hb78 s7 hb7 hmi7 hme hbo hBRr hBr hown hRB s78 hln hsn2 hsn3 hlm hnone hm0
            go_wp2_with fail
            with_reducible refine HAll.out.mono ?_
            rintro e w9 ⟨aa, ca, rfl, own9, hb9⟩
            obtain ⟨hb78, hB8, s78, hmi8⟩ := H8.out
            have hst9 := HSt.out w9 w8 aa ca (hb78.trans (hb9.mono hb78.size)) own9
            have HSt9 := Lib.hid hst9
            have H9 := Lib.hid (And.intro hb9 (And.intro hB8 (And.intro s78 hmi8)))
            clear hst9 own9 hb9 hb78 hB8 s78 hmi8 u0 u1 u2 u3 u4 u5 u6 u7 u8
            go_wp2_with fail
            with_reducible refine HSt9.out.mono ?_
            rintro e w10 ⟨rfl, nn, hw10⟩
            obtain ⟨hb9, hB8, s78, hmi8⟩ := H9.out
            have hb10 : Below w9.heap.size w9 w10 := by rw [← hw10]; exact ((Mod.refl [] w9).drewN nn).toBelow (Nat.le_refl _) (by simp)
            have hb810 := hb9.trans (hb10.mono hb9.size)
            have hB10 := hB8.trans (hb810.mono hB8.size)
            obtain ⟨u0, u1, u2, u3, u4, u5, u6, u7, u8⟩ := nd_cells ((hb810.block _ (block_lt s78)).trans s78)
            have hsm := small11_c m w10 (Is.mono hb810.size (Is.below hb810 hmi8))
            rw [hnv] at hsm
            have HSm := Lib.hid hsm
            have H10 := Lib.hid (And.intro hB10 hb810)
            clear hsm hb9 hB8 s78 hmi8 hb10 hb810 hB10 hw10
            go_wp2_with fail
            with_reducible refine HSm.out.mono ?_
            rintro e w11 ⟨m2, rfl, hme2, hmi2, _, hb11⟩
            obtain ⟨hB10, hb810⟩ := H10.out
            obtain ⟨z0, z1, z2, z3, hzs⟩ := four' hmi2.len
            obtain ⟨k2, mn2, mx2, a2, nl2, c2, t2, hnv2, hcl2⟩ := nv_explicit hzs
            obtain ⟨W12, hW12⟩ : ∃ W12, w11.alloc (.cells #[.int .i64 k2, .int .u64 (z0 : Int), .int .u64 (z1 : Int), .int .u64 (z2 : Int), .int .u64 (z3 : Int), .slice a2 nl2 c2, .int .i64 mn2, .int .i64 mx2, .string (Str t2)] 44) = W12 := ⟨_, rfl⟩
            have b12 : Below w11.heap.size w11 W12 := by rw [← hW12]; exact (Below.refl _ _).alloc (Nat.le_refl _) _
            have s12 : W12.heap[w11.heap.size]? = some (.cells #[.int .i64 k2, .int .u64 (z0 : Int), .int .u64 (z1 : Int), .int .u64 (z2 : Int), .int .u64 (z3 : Int), .slice a2 nl2 c2, .int .i64 mn2, .int .i64 mx2, .string (Str t2)] 44 (0, 0)) := by rw [← hW12]; exact heap_alloc_new w11 _
            have hb1012 := hb11.trans (b12.mono hb11.size)
            have hB12 := hB10.trans (hb1012.mono hB10.size)
            have HW12 := Lib.hid hW12
            rw [hnv2]
            have HB12 := Lib.hid hB12
            clear hW12 hnv2 hcl2 hzs hmi2 hme2 hb11 hB10 b12 s12 hb1012 hB12 hnv hb810
            go_upto_region 19 with (fail)
            rw [HW12.out]
            refine wp_region_noPanic ?_
            refine wp_region_held_drew (S := fun _ => True) (by kernel_rfl) trivial (fun hHeld => ?_)
            (refine wpAnyH_take (i := 0) (v := ?v0n1) (by simp only [List.getElem?_toArray, List.getElem?_cons_succ, List.getElem?_cons_zero]; rfl) (by kernel_rfl) (by kernel_rfl) (by kernel_rfl) (fun _ _ _ h => False.elim h) (Or.inl ⟨by rfl, ?hy0n1⟩) (by assumption) ?rest0n1; (case hy0n1 => (intro w hSw; (try dsimp only at hSw); go_simp; (try with_reducible rfl))); (try simp only [Act.put, List.setIfInBounds_toArray, List.set_cons_zero, List.set_cons_succ]))
            (refine wpAnyH_take (i := 1) (v := ?v1n2) (by simp only [List.getElem?_toArray, List.getElem?_cons_succ, List.getElem?_cons_zero]; rfl) (by kernel_rfl) (by kernel_rfl) (by kernel_rfl) (fun _ _ _ h => False.elim h) (Or.inl ⟨by rfl, ?hy1n2⟩) (by assumption) ?rest1n2; (case hy1n2 => (intro w hSw; (try dsimp only at hSw); go_simp; (try with_reducible rfl))); (try simp only [Act.put, List.setIfInBounds_toArray, List.set_cons_zero, List.set_cons_succ]))
            (refine wpAnyH_take (i := 2) (v := ?v2n3) (by simp only [List.getElem?_toArray, List.getElem?_cons_succ, List.getElem?_cons_zero]; rfl) (by kernel_rfl) (by kernel_rfl) (by kernel_rfl) (fun _ _ _ h => False.elim h) (Or.inl ⟨by rfl, ?hy2n3⟩) (by assumption) ?rest2n3; (case hy2n3 => (intro w hSw; (try dsimp only at hSw); go_simp; (try with_reducible rfl))); (try simp only [Act.put, List.setIfInBounds_toArray, List.set_cons_zero, List.set_cons_succ]))
            (refine wpAnyH_take (i := 3) (v := undef) (by simp only [List.getElem?_toArray, List.getElem?_cons_succ, List.getElem?_cons_zero]; rfl) (by kernel_rfl) (by kernel_rfl) (by kernel_rfl) (fun _ _ _ h => False.elim h) (Or.inr ⟨by rfl, rfl⟩) (by assumption) ?rest3s20; (try simp only [Act.put, List.setIfInBounds_toArray, List.set_cons_zero, List.set_cons_succ]))
            (refine wpAnyH_take (i := 4) (v := undef) (by simp only [List.getElem?_toArray, List.getElem?_cons_succ, List.getElem?_cons_zero]; rfl) (by kernel_rfl) (by kernel_rfl) (by kernel_rfl) (fun _ _ _ h => False.elim h) (Or.inr ⟨by rfl, rfl⟩) (by assumption) ?rest4s21; (try simp only [Act.put, List.setIfInBounds_toArray, List.set_cons_zero, List.set_cons_succ]))
            (refine wpAnyH_take (i := 5) (v := undef) (by simp only [List.getElem?_toArray, List.getElem?_cons_succ, List.getElem?_cons_zero]; rfl) (by kernel_rfl) (by kernel_rfl) (by kernel_rfl) (fun _ _ _ h => False.elim h) (Or.inr ⟨by rfl, rfl⟩) (by assumption) ?rest5s22; (try simp only [Act.put, List.setIfInBounds_toArray, List.set_cons_zero, List.set_cons_succ]))
            (refine wpAnyH_take (i := 6) (v := undef) (by simp only [List.getElem?_toArray, List.getElem?_cons_succ, List.getElem?_cons_zero]; rfl) (by kernel_rfl) (by kernel_rfl) (by kernel_rfl) (fun _ _ _ h => False.elim h) (Or.inr ⟨by rfl, rfl⟩) (by assumption) ?rest6s23; (try simp only [Act.put, List.setIfInBounds_toArray, List.set_cons_zero, List.set_cons_succ]))
            (refine wpAnyH_take (i := 7) (v := undef) (by simp only [List.getElem?_toArray, List.getElem?_cons_succ, List.getElem?_cons_zero]; rfl) (by kernel_rfl) (by kernel_rfl) (by kernel_rfl) (fun _ _ _ h => False.elim h) (Or.inr ⟨by rfl, rfl⟩) (by assumption) ?rest7s24; (try simp only [Act.put, List.setIfInBounds_toArray, List.set_cons_zero, List.set_cons_succ]))
            (refine wpAnyH_take (i := 8) (v := undef) (by simp only [List.getElem?_toArray, List.getElem?_cons_succ, List.getElem?_cons_zero]; rfl) (by kernel_rfl) (by kernel_rfl) (by kernel_rfl) (fun _ _ _ h => False.elim h) (Or.inr ⟨by rfl, rfl⟩) (by assumption) ?rest8s25; (try simp only [Act.put, List.setIfInBounds_toArray, List.set_cons_zero, List.set_cons_succ]))
            (refine wpAnyH_take (i := 9) (v := undef) (by simp only [List.getElem?_toArray, List.getElem?_cons_succ, List.getElem?_cons_zero]; rfl) (by kernel_rfl) (by kernel_rfl) (by kernel_rfl) (fun _ _ _ h => False.elim h) (Or.inr ⟨by rfl, rfl⟩) (by assumption) ?rest9s26; (try simp only [Act.put, List.setIfInBounds_toArray, List.set_cons_zero, List.set_cons_succ]))
            (refine wpAnyH_take (i := 10) (v := undef) (by simp only [List.getElem?_toArray, List.getElem?_cons_succ, List.getElem?_cons_zero]; rfl) (by kernel_rfl) (by kernel_rfl) (by kernel_rfl) (fun _ _ _ h => False.elim h) (Or.inr ⟨by rfl, rfl⟩) (by assumption) ?rest10s27; (try simp only [Act.put, List.setIfInBounds_toArray, List.set_cons_zero, List.set_cons_succ]))
            (refine wpAnyH_take (i := 11) (v := undef) (by simp only [List.getElem?_toArray, List.getElem?_cons_succ, List.getElem?_cons_zero]; rfl) (by kernel_rfl) (by kernel_rfl) (by kernel_rfl) (fun _ _ _ h => False.elim h) (Or.inr ⟨by rfl, rfl⟩) (by assumption) ?rest11s28; (try simp only [Act.put, List.setIfInBounds_toArray, List.set_cons_zero, List.set_cons_succ]))
            (refine wpAnyH_take (i := 12) (v := undef) (by simp only [List.getElem?_toArray, List.getElem?_cons_succ, List.getElem?_cons_zero]; rfl) (by kernel_rfl) (by kernel_rfl) (by kernel_rfl) (fun _ _ _ h => False.elim h) (Or.inr ⟨by rfl, rfl⟩) (by assumption) ?rest12s29; (try simp only [Act.put, List.setIfInBounds_toArray, List.set_cons_zero, List.set_cons_succ]))
            (refine wpAnyH_take (i := 13) (v := ?v13n4) (by simp only [List.getElem?_toArray, List.getElem?_cons_succ, List.getElem?_cons_zero]; rfl) (by kernel_rfl) (by kernel_rfl) (by kernel_rfl) (fun _ _ _ h => False.elim h) (Or.inl ⟨by rfl, ?hy13n4⟩) (by assumption) ?rest13n4; (case hy13n4 => (intro w hSw; (try dsimp only at hSw); go_simp; (try with_reducible rfl))); (try simp only [Act.put, List.setIfInBounds_toArray, List.set_cons_zero, List.set_cons_succ]))
            (refine wpAnyH_take (i := 14) (v := ?v14n5) (by simp only [List.getElem?_toArray, List.getElem?_cons_succ, List.getElem?_cons_zero]; rfl) (by kernel_rfl) (by kernel_rfl) (by kernel_rfl) (fun _ _ _ h => False.elim h) (Or.inl ⟨by rfl, ?hy14n5⟩) (by assumption) ?rest14n5; (case hy14n5 => (intro w hSw; (try dsimp only at hSw); go_simp; (try with_reducible rfl))); (try simp only [Act.put, List.setIfInBounds_toArray, List.set_cons_zero, List.set_cons_succ]))
            refine wpAnyH_done (by kernel_rfl) ?_ _
            refine NoPanic.normal ?_
            go_wp2
            go_ret
            exact ⟨rfl, HB12.out.drew⟩
          | true =>
            obtain ⟨k, hk, rfl, hka, hks⟩ : ∃ (k : Nat) (hk : k < Ts.length), r = (k : Int) ∧ Ts[k].1 = ask ∧ lkS Ts ask = some Ts[k].2 := by
              rcases hfp with ⟨_, h⟩ | h
              · rw [lkS_er, h] at hbo; cases hbo
              · exact h
            have hmk : er m = er Ts[k].2 := hme _ (by rw [lkS_er, hks]; rfl)
            have hkj : k < j := by have := hRB.hn; omega
            have HT := Lib.hid (And.intro hk (And.intro hmk hRB))
            have hk0 : (0 : Int) ≤ (k : Int) := by omega
            have hkj2 : (k : Int) < (j : Int) := by omega
            clear hall hst hfp hb8 hb78 s7 hb7 hmi7 hme hbo hBRr hBr hown hRB s78 hln hsn2 hsn3 hlm hm0 hks hka hmk
            have H8b := Lib.hid H8.out.1
            go_wp2_with fail
            with_reducible refine HAll.out.mono ?_
            rintro e w9 ⟨aa, ca, rfl, own9, hb9⟩
            obtain ⟨hb78, hB8, s78, hmi8⟩ := H8.out
            have hst9 := HSt.out w9 w8 aa ca (hb78.trans (hb9.mono hb78.size)) own9
            have HSt9 := Lib.hid hst9
            have H9 := Lib.hid (And.intro hb9 (And.intro hB8 (And.intro s78 hmi8)))
            clear hst9 own9 hb9 hb78 hB8 s78 hmi8 u0 u1 u2 u3 u4 u5 u6 u7 u8
            go_wp2_with fail
            with_reducible refine HSt9.out.mono ?_
            rintro e w10 ⟨rfl, nn, hw10⟩
            obtain ⟨hb9, hB8, s78, hmi8⟩ := H9.out
            have hb10 : Below w9.heap.size w9 w10 := by rw [← hw10]; exact ((Mod.refl [] w9).drewN nn).toBelow (Nat.le_refl _) (by simp)
            have hb810 := hb9.trans (hb10.mono hb9.size)
            have hB10 := hB8.trans (hb810.mono hB8.size)
            obtain ⟨u0, u1, u2, u3, u4, u5, u6, u7, u8⟩ := nd_cells ((hb810.block _ (block_lt s78)).trans s78)
            have hsm := small11_c m w10 (Is.mono hb810.size (Is.below hb810 hmi8))
            rw [hnv] at hsm
            have HSm := Lib.hid hsm
            have H10 := Lib.hid (And.intro hB10 hb810)
            clear hsm hb9 hB8 s78 hmi8 hb10 hb810 hB10 hw10
            go_wp2_with fail
            with_reducible refine HSm.out.mono ?_
            rintro e w11 ⟨m2, rfl, hme2, hmi2, _, hb11⟩
            obtain ⟨hB10, hb810⟩ := H10.out
            obtain ⟨z0, z1, z2, z3, hzs⟩ := four' hmi2.len
            obtain ⟨k2, mn2, mx2, a2, nl2, c2, t2, hnv2, hcl2⟩ := nv_explicit hzs
            obtain ⟨W12, hW12⟩ : ∃ W12, w11.alloc (.cells #[.int .i64 k2, .int .u64 (z0 : Int), .int .u64 (z1 : Int), .int .u64 (z2 : Int), .int .u64 (z3 : Int), .slice a2 nl2 c2, .int .i64 mn2, .int .i64 mx2, .string (Str t2)] 44) = W12 := ⟨_, rfl⟩
            have b12 : Below w11.heap.size w11 W12 := by rw [← hW12]; exact (Below.refl _ _).alloc (Nat.le_refl _) _
            have s12 : W12.heap[w11.heap.size]? = some (.cells #[.int .i64 k2, .int .u64 (z0 : Int), .int .u64 (z1 : Int), .int .u64 (z2 : Int), .int .u64 (z3 : Int), .slice a2 nl2 c2, .int .i64 mn2, .int .i64 mx2, .string (Str t2)] 44 (0, 0)) := by rw [← hW12]; exact heap_alloc_new w11 _
            have hb1012 := hb11.trans (b12.mono hb11.size)
            have hB12 := hB10.trans (hb1012.mono hB10.size)
            have HW12 := Lib.hid hW12
            rw [hnv2]
            obtain ⟨hk, hmk, hRB⟩ := HT.out
            have hwr12 := (H8b.out.trans (hb810.mono H8b.out.size)).trans (hb1012.mono (by have := H8b.out.size; have := hb810.size; omega))
            have hRB12 := hRB.mod (Mod.of_below hwr12 []) (by simp)
            obtain ⟨hTi, hTr, _⟩ := hRB12.ht _ (List.getElem_mem hk)
            obtain ⟨rb, ro, rfl, hcs⟩ := hRB12.at k hk
            have hqb := hRB12.hq
            have hset := hTi.len
            obtain ⟨⟨nm, kid⟩, hkd⟩ : ∃ x, Ts[k] = x := ⟨_, rfl⟩
            rw [hkd] at hcs hset hTi hTr hmk
            simp only at hTi hTr hmk
            have hgm : rgt m = true := by rw [same_rgt hmk]; exact hTr
            have hm2 : er m2 = er m := hme2 (by have := rgt_sz hgm; omega)
            have hr2 : rgt m2 = true := by rw [same_rgt hm2]; exact hgm
            have hsam : sm m2 kid = true := (sm_iff _ _).2 (hm2.trans hmk)
            have hrs := fun (V : World) (hb : Below W12.heap.size W12 V) => rsame_c m2 kid (rgt_texts hr2) (rgt_texts hTr) V (Is.mono (Nat.le_trans b12.size hb.size) (Is.below (hb.mono b12.size) (Is.below b12 hmi2))) (Is.mono hb.size (Is.below hb hTi))
            have hkI := hTi
            obtain ⟨y0, y1, y2, y3, hys⟩ := four' hset
            obtain ⟨kk, ksx, kmn, kmx, kt, ka, kc, kks⟩ := kid
            simp only [Nd.set] at hys
            subst hys
            have hnvk : nv (.mk kk [y0, y1, y2, y3] kmn kmx kt ka kc kks) = .agg #[.int .i64 kk, .int .u64 (y0 : Int), .int .u64 (y1 : Int), .int .u64 (y2 : Int), .int .u64 (y3 : Int), .slice ka kks.length kc, .int .i64 kmn, .int .i64 kmx, .string (Str kt)] := rfl
            rw [hr2, hTr, hsam, hnv2, hnvk] at hrs
            obtain ⟨kl, hkl⟩ : ∃ kl, kks.length = kl := ⟨_, rfl⟩
            rw [hkl] at hrs
            have hcl : ∀ V : World, Below W12.heap.size W12 V → (V.cell? ⟨q, 0, none⟩ = some (.slice (some ⟨rb, ro, none⟩) j rc) ∧ V.cell? ⟨rb, ro + k * 10 + 1, none⟩ = some (.int .i64 kk) ∧ V.cell? ⟨rb, ro + k * 10 + 1 + 1, none⟩ = some (.int .u64 (y0 : Int)) ∧ V.cell? ⟨rb, ro + k * 10 + 1 + 2, none⟩ = some (.int .u64 (y1 : Int)) ∧ V.cell? ⟨rb, ro + k * 10 + 1 + 3, none⟩ = some (.int .u64 (y2 : Int)) ∧ V.cell? ⟨rb, ro + k * 10 + 1 + 4, none⟩ = some (.int .u64 (y3 : Int)) ∧ V.cell? ⟨rb, ro + k * 10 + 1 + 5, none⟩ = some (.slice ka kl kc) ∧ V.cell? ⟨rb, ro + k * 10 + 1 + 6, none⟩ = some (.int .i64 kmn) ∧ V.cell? ⟨rb, ro + k * 10 + 1 + 7, none⟩ = some (.int .i64 kmx) ∧ V.cell? ⟨rb, ro + k * 10 + 1 + 8, none⟩ = some (.string (Str kt))) ∧ (V.cell? ⟨w11.heap.size, 0, none⟩ = some (.int .i64 k2) ∧ V.cell? ⟨w11.heap.size, 1, none⟩ = some (.int .u64 (z0 : Int)) ∧ V.cell? ⟨w11.heap.size, 2, none⟩ = some (.int .u64 (z1 : Int)) ∧ V.cell? ⟨w11.heap.size, 3, none⟩ = some (.int .u64 (z2 : Int)) ∧ V.cell? ⟨w11.heap.size, 4, none⟩ = some (.int .u64 (z3 : Int)) ∧ V.cell? ⟨w11.heap.size, 5, none⟩ = some (.slice a2 nl2 c2) ∧ V.cell? ⟨w11.heap.size, 6, none⟩ = some (.int .i64 mn2) ∧ V.cell? ⟨w11.heap.size, 7, none⟩ = some (.int .i64 mx2) ∧ V.cell? ⟨w11.heap.size, 8, none⟩ = some (.string (Str t2))) := fun V hb => by
              have hq12 := (hb.block _ (block_lt hqb)).trans hqb
              have hc := fun (i : Nat) (x : Value) (hi : (dcells (nm, Nd.mk kk [y0, y1, y2, y3] kmn kmx kt ka kc kks))[i]? = some x) (h10 : i < 10) => ((hb.cell (p := ⟨rb, ro + (k * 10 + i), none⟩) (Kt.lt_of_cell (hcs i x hi h10))).trans (hcs i x hi h10) : V.cell? ⟨rb, ro + (k * 10 + i), none⟩ = some x)
              refine ⟨⟨cell_block hq12 0, ?_, ?_, ?_, ?_, ?_, ?_, ?_, ?_, ?_⟩, nd_cells ((hb.block _ (block_lt s12)).trans s12)⟩
              · have := hc 1 _ rfl (by omega); rw [← Nat.add_assoc] at this; exact this
              · have := hc 2 _ rfl (by omega); rw [← Nat.add_assoc] at this; exact this
              · have := hc 3 _ rfl (by omega); rw [← Nat.add_assoc] at this; exact this
              · have := hc 4 _ rfl (by omega); rw [← Nat.add_assoc] at this; exact this
              · have := hc 5 _ rfl (by omega); rw [← Nat.add_assoc] at this; exact this
              · have := hc 6 _ rfl (by omega); rw [← Nat.add_assoc] at this; rw [← hkl]; exact this
              · have := hc 7 _ rfl (by omega); rw [← Nat.add_assoc] at this; exact this
              · have := hc 8 _ rfl (by omega); rw [← Nat.add_assoc] at this; exact this
              · have := hc 9 _ rfl (by omega); rw [← Nat.add_assoc] at this; exact this
            have HRs := Lib.hid hrs
            have HCl := Lib.hid hcl
            have HB12 := Lib.hid hB12
            clear hrs hcl hW12 hnv2 hcl2 hzs hmi2 hme2 hb11 hB10 b12 s12 hb1012 hB12 hnv hb810 hcs hqb hRB12 hwr12 hRB hmk hgm hm2 hr2 hsam hkI hTi hTr hkd hkl hnvk hset
            go_upto_region 19 with (fail)
            rw [HW12.out]
            have n0 : Below W12.heap.size W12 W12.drew := (Below.refl _ _).drew
            refine wp_region_noPanic ?_
            refine wp_region_held_drew (S := fun V => (V.cell? ⟨q, 0, none⟩ = some (.slice (some ⟨rb, ro, none⟩) j rc) ∧ V.cell? ⟨rb, ro + k * 10 + 1, none⟩ = some (.int .i64 kk) ∧ V.cell? ⟨rb, ro + k * 10 + 1 + 1, none⟩ = some (.int .u64 (y0 : Int)) ∧ V.cell? ⟨rb, ro + k * 10 + 1 + 2, none⟩ = some (.int .u64 (y1 : Int)) ∧ V.cell? ⟨rb, ro + k * 10 + 1 + 3, none⟩ = some (.int .u64 (y2 : Int)) ∧ V.cell? ⟨rb, ro + k * 10 + 1 + 4, none⟩ = some (.int .u64 (y3 : Int)) ∧ V.cell? ⟨rb, ro + k * 10 + 1 + 5, none⟩ = some (.slice ka kl kc) ∧ V.cell? ⟨rb, ro + k * 10 + 1 + 6, none⟩ = some (.int .i64 kmn) ∧ V.cell? ⟨rb, ro + k * 10 + 1 + 7, none⟩ = some (.int .i64 kmx) ∧ V.cell? ⟨rb, ro + k * 10 + 1 + 8, none⟩ = some (.string (Str kt))) ∧ (V.cell? ⟨w11.heap.size, 0, none⟩ = some (.int .i64 k2) ∧ V.cell? ⟨w11.heap.size, 1, none⟩ = some (.int .u64 (z0 : Int)) ∧ V.cell? ⟨w11.heap.size, 2, none⟩ = some (.int .u64 (z1 : Int)) ∧ V.cell? ⟨w11.heap.size, 3, none⟩ = some (.int .u64 (z2 : Int)) ∧ V.cell? ⟨w11.heap.size, 4, none⟩ = some (.int .u64 (z3 : Int)) ∧ V.cell? ⟨w11.heap.size, 5, none⟩ = some (.slice a2 nl2 c2) ∧ V.cell? ⟨w11.heap.size, 6, none⟩ = some (.int .i64 mn2) ∧ V.cell? ⟨w11.heap.size, 7, none⟩ = some (.int .i64 mx2) ∧ V.cell? ⟨w11.heap.size, 8, none⟩ = some (.string (Str t2)))) (by kernel_rfl) (HCl.out _ n0) (fun hHeld => ?_)
            (refine wpAnyH_take (i := 0) (v := ?v0n6) (by simp only [List.getElem?_toArray, List.getElem?_cons_succ, List.getElem?_cons_zero]; rfl) (by kernel_rfl) (by kernel_rfl) (by kernel_rfl) (fun _ _ _ h => False.elim h) (Or.inl ⟨by rfl, ?hy0n6⟩) (by assumption) ?rest0n6; (case hy0n6 => (intro w hSw; (try dsimp only at hSw); go_simp; (try with_reducible rfl))); (try simp only [Act.put, List.setIfInBounds_toArray, List.set_cons_zero, List.set_cons_succ]))
            (refine wpAnyH_take (i := 1) (v := ?v1n7) (by simp only [List.getElem?_toArray, List.getElem?_cons_succ, List.getElem?_cons_zero]; rfl) (by kernel_rfl) (by kernel_rfl) (by kernel_rfl) (fun _ _ _ h => False.elim h) (Or.inl ⟨by rfl, ?hy1n7⟩) (by assumption) ?rest1n7; (case hy1n7 => (intro w hSw; (try dsimp only at hSw); go_simp; (try with_reducible rfl))); (try simp only [Act.put, List.setIfInBounds_toArray, List.set_cons_zero, List.set_cons_succ]))
            (refine wpAnyH_take (i := 2) (v := ?v2n8) (by simp only [List.getElem?_toArray, List.getElem?_cons_succ, List.getElem?_cons_zero]; rfl) (by kernel_rfl) (by kernel_rfl) (by kernel_rfl) (fun _ _ _ h => False.elim h) (Or.inl ⟨by rfl, ?hy2n8⟩) (by assumption) ?rest2n8; (case hy2n8 => (intro w hSw; (try dsimp only at hSw); go_simp; (try with_reducible rfl))); (try simp only [Act.put, List.setIfInBounds_toArray, List.set_cons_zero, List.set_cons_succ]))
            (refine wpAnyH_take (i := 3) (v := ?v3n9) (by simp only [List.getElem?_toArray, List.getElem?_cons_succ, List.getElem?_cons_zero]; rfl) (by kernel_rfl) (by kernel_rfl) (by kernel_rfl) (fun _ _ _ h => False.elim h) (Or.inl ⟨by rfl, ?hy3n9⟩) (by assumption) ?rest3n9; (case hy3n9 => (intro w hSw; (try dsimp only at hSw); go_simp; (try with_reducible rfl))); (try simp only [Act.put, List.setIfInBounds_toArray, List.set_cons_zero, List.set_cons_succ]))
            (refine wpAnyH_take (i := 4) (v := ?v4n10) (by simp only [List.getElem?_toArray, List.getElem?_cons_succ, List.getElem?_cons_zero]; rfl) (by kernel_rfl) (by kernel_rfl) (by kernel_rfl) (fun _ _ _ h => False.elim h) (Or.inl ⟨by rfl, ?hy4n10⟩) (by assumption) ?rest4n10; (case hy4n10 => (intro w hSw; (try dsimp only at hSw); go_simp; (try with_reducible rfl))); (try simp only [Act.put, List.setIfInBounds_toArray, List.set_cons_zero, List.set_cons_succ]))
            (refine wpAnyH_take (i := 5) (v := ?v5n11) (by simp only [List.getElem?_toArray, List.getElem?_cons_succ, List.getElem?_cons_zero]; rfl) (by kernel_rfl) (by kernel_rfl) (by kernel_rfl) (fun _ _ _ h => False.elim h) (Or.inl ⟨by rfl, ?hy5n11⟩) (by assumption) ?rest5n11; (case hy5n11 => (intro w hSw; (try dsimp only at hSw); go_simp; (try with_reducible rfl))); (try simp only [Act.put, List.setIfInBounds_toArray, List.set_cons_zero, List.set_cons_succ]))
            (refine wpAnyH_take (i := 6) (v := ?v6n12) (by simp only [List.getElem?_toArray, List.getElem?_cons_succ, List.getElem?_cons_zero]; rfl) (by kernel_rfl) (by kernel_rfl) (by kernel_rfl) (fun _ _ _ h => False.elim h) (Or.inl ⟨by rfl, ?hy6n12⟩) (by assumption) ?rest6n12; (case hy6n12 => (intro w hSw; (try dsimp only at hSw); go_simp; (try with_reducible rfl))); (try simp only [Act.put, List.setIfInBounds_toArray, List.set_cons_zero, List.set_cons_succ]))
            (refine wpAnyH_take (i := 7) (v := ?v7n13) (by simp only [List.getElem?_toArray, List.getElem?_cons_succ, List.getElem?_cons_zero]; rfl) (by kernel_rfl) (by kernel_rfl) (by kernel_rfl) (fun _ _ _ h => False.elim h) (Or.inl ⟨by rfl, ?hy7n13⟩) (by assumption) ?rest7n13; (case hy7n13 => (intro w hSw; (try dsimp only at hSw); go_simp; (try with_reducible rfl))); (try simp only [Act.put, List.setIfInBounds_toArray, List.set_cons_zero, List.set_cons_succ]))
            (refine wpAnyH_take (i := 8) (v := ?v8n14) (by simp only [List.getElem?_toArray, List.getElem?_cons_succ, List.getElem?_cons_zero]; rfl) (by kernel_rfl) (by kernel_rfl) (by kernel_rfl) (fun _ _ _ h => False.elim h) (Or.inl ⟨by rfl, ?hy8n14⟩) (by assumption) ?rest8n14; (case hy8n14 => (intro w hSw; (try dsimp only at hSw); go_simp; (try with_reducible rfl))); (try simp only [Act.put, List.setIfInBounds_toArray, List.set_cons_zero, List.set_cons_succ]))
            (refine wpAnyH_take (i := 9) (v := ?v9n15) (by simp only [List.getElem?_toArray, List.getElem?_cons_succ, List.getElem?_cons_zero]; rfl) (by kernel_rfl) (by kernel_rfl) (by kernel_rfl) (fun _ _ _ h => False.elim h) (Or.inl ⟨by rfl, ?hy9n15⟩) (by assumption) ?rest9n15; (case hy9n15 => (intro w hSw; (try dsimp only at hSw); go_simp; (try with_reducible rfl))); (try simp only [Act.put, List.setIfInBounds_toArray, List.set_cons_zero, List.set_cons_succ]))
            (refine wpAnyH_take (i := 10) (v := ?v10n16) (by simp only [List.getElem?_toArray, List.getElem?_cons_succ, List.getElem?_cons_zero]; rfl) (by kernel_rfl) (by kernel_rfl) (by kernel_rfl) (fun _ _ _ h => False.elim h) (Or.inl ⟨by rfl, ?hy10n16⟩) (by assumption) ?rest10n16; (case hy10n16 => (intro w hSw; (try dsimp only at hSw); go_simp; (try with_reducible rfl))); (try simp only [Act.put, List.setIfInBounds_toArray, List.set_cons_zero, List.set_cons_succ]))
            (refine wpAnyH_take (i := 11) (v := ?v11n17) (by simp only [List.getElem?_toArray, List.getElem?_cons_succ, List.getElem?_cons_zero]; rfl) (by kernel_rfl) (by kernel_rfl) (by kernel_rfl) (fun _ _ _ h => False.elim h) (Or.inl ⟨by rfl, ?hy11n17⟩) (by assumption) ?rest11n17; (case hy11n17 => (intro w hSw; (try dsimp only at hSw); go_simp; (try with_reducible rfl))); (try simp only [Act.put, List.setIfInBounds_toArray, List.set_cons_zero, List.set_cons_succ]))
            (refine wpAnyH_ready (rs := [12]) (by kernel_rfl) (by simp) ?_; refine AllReadyH.cons (o := _) (by simp only [List.getElem?_toArray, List.getElem?_cons_succ, List.getElem?_cons_zero]; rfl) (fun K hK => ?_) AllReadyH.nil; go_simp; ((with_reducible refine (HRs.out _ n0).mono ?_); rintro e w13 ⟨rfl, hb13⟩; have n1 := n0.trans (hb13.mono n0.size)); refine hK.out _ _ (by exact HCl.out _ n1) (fun hHeld => ?_); clear hK K; (try simp only [Act.put, List.setIfInBounds_toArray, List.set_cons_zero, List.set_cons_succ]))
            (refine wpAnyH_take (i := 13) (v := ?v13n18) (by simp only [List.getElem?_toArray, List.getElem?_cons_succ, List.getElem?_cons_zero]; rfl) (by kernel_rfl) (by kernel_rfl) (by kernel_rfl) (fun _ _ _ h => False.elim h) (Or.inl ⟨by rfl, ?hy13n18⟩) (by assumption) ?rest13n18; (case hy13n18 => (intro w hSw; (try dsimp only at hSw); go_simp; (try with_reducible rfl))); (try simp only [Act.put, List.setIfInBounds_toArray, List.set_cons_zero, List.set_cons_succ]))
            (refine wpAnyH_take (i := 14) (v := ?v14n19) (by simp only [List.getElem?_toArray, List.getElem?_cons_succ, List.getElem?_cons_zero]; rfl) (by kernel_rfl) (by kernel_rfl) (by kernel_rfl) (fun _ _ _ h => False.elim h) (Or.inl ⟨by rfl, ?hy14n19⟩) (by assumption) ?rest14n19; (case hy14n19 => (intro w hSw; (try dsimp only at hSw); go_simp; (try with_reducible rfl))); (try simp only [Act.put, List.setIfInBounds_toArray, List.set_cons_zero, List.set_cons_succ]))
            refine wpAnyH_done (by kernel_rfl) ?_ _
            refine NoPanic.normal ?_
            go_wp2
            go_ret
            exact ⟨rfl, HB12.out.trans (n1.mono HB12.out.size)⟩
end Bo
end Go.Proofs.YteekonojmpihlaaDoor
