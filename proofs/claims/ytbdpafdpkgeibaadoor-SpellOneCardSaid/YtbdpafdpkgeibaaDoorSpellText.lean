/- spell.Text, and spell.Bytes of such a text. -/
import Derived.Test.YtbdpafdpkgeibaaDoorSpellLaw0
import Derived.Test.YtbdpafdpkgeibaaDoorBuild
namespace Go.Proofs.YtbdpafdpkgeibaaDoor
open Go Go.RowKit Kt
namespace Sp
/-- The loop of Text. -/
def TxR (w : World) (l : List UInt8) (i : Value) (W : World) : Prop := ∃ k, k ≤ l.length ∧ i = .int .i64 k ∧ Bu.Is W w.heap.size w.heap.size (txt (l.take k)) ∧ Below w.heap.size w W
set_option maxHeartbeats 2000000 in
set_option maxRecDepth 100000 in
theorem text_c (a : Option Addr) (cap n : Nat) (l : List UInt8) (w : World) (hn : l.length = n) (hl : n ≤ 1000000) (hr : Rd w a (u8s l)) :
    Calls Tryd.prog 27 #[.slice a n cap] w fun e w' => e = .returned (.string (Str (txt l))) ∧ Below w.heap.size w w' := by
  have hI0 := Bu.new w w.heap.size (Nat.le_refl _)
  have hb0 := (Below.refl w.heap.size w).alloc (Nat.le_refl _) (.cells #[.pointer none, .slice none 0 0] 111)
  have HI := Lib.hid hI0
  have HB := Lib.hid hb0
  have Hn := Lib.hid hn
  have HR := Lib.hid hr
  clear hI0 hb0 hn hr
  go_enter Tryd.func27, Tryd.ntmps27
  go_wp2
  go_loopw [5, 8] (fun _ i W => TxR w l i W) (fun _ i _ => n - (intOf i).toNat)
  case atStart => exact ⟨0, Nat.zero_le _, rfl, HI.out, HB.out⟩
  case round =>
    obtain ⟨k, hk, rfl, hI, hB⟩ := hrel
    rw [Hn.out] at hk
    by_cases hlt : k < n
    · have hkl : k < l.length := by rw [Hn.out]; exact hlt
      obtain ⟨b, off, ha, hc⟩ := (HR.out.keep hB).u8 k hkl
      subst ha
      have hsn : txt (l.take (k + 1)) = txt (l.take k) ++ sp outs l[k] := by rw [← txt_snoc, List.take_append_getElem hkl]
      generalize l[k] = c at *
      have Hsn := Lib.hid hsn
      have HI2 := Lib.hid hI
      have HB2 := Lib.hid hB
      clear hsn hI hB
      have hlen : (txt (l.take k)).length + (sp outs c).length ≤ 140737488355328 := by
        have := (txt_len (l.take k)).1
        have := (sp_len c).1
        rw [List.length_take] at *
        omega
      have Hlen := Lib.hid hlen
      clear hlen
      go_wp2_with fail
      refine (plain_c c wr).mono ?_
      rintro e w1 ⟨rfl, hb1⟩
      have hI1 : Bu.Is w1 w.heap.size w.heap.size (txt (l.take k)) := Bu.is_below HI2.out hb1
      have hB1 := HB2.out.trans (hb1.mono HB2.out.size)
      have HI1 := Lib.hid hI1
      have HB1 := Lib.hid hB1
      clear hI1 hb1 hB1
      go_wp2_with fail
      refine (Bu.write_c _ _ _ _ w1 HI1.out Hlen.out HB1.out.size).mono ?_
      rintro e w2 ⟨rfl, hI2, hb2⟩
      have HI3 := Lib.hid hI2
      have HB3 := Lib.hid (HB1.out.trans hb2)
      clear hI2 hb2
      go_wp2
      go_roundw
      case rel => first | exact ⟨k + 1, hkl, by go_num, by rw [Hsn.out]; exact HI3.out, HB3.out⟩ | ((repeat apply Exists.intro); refine ⟨?r, ?f⟩; (case f => (and_intros <;> rfl)); exact ⟨k + 1, hkl, by go_num, by rw [Hsn.out]; exact HI3.out, HB3.out⟩)
      case measure => simp [intOf]; omega
    · have hkn : k = n := by omega
      subst hkn
      rw [List.take_of_length_le (by rw [Hn.out]; exact Nat.le_refl _)] at hI
      have HI2 := Lib.hid hI
      have HB2 := Lib.hid hB
      clear hI hB
      go_wp2_with fail
      refine (Bu.string_c _ _ _ wr HI2.out HB2.out.size).mono ?_
      rintro e w1 ⟨rfl, hb1⟩
      go_wp2
      go_ret
      exact ⟨rfl, HB2.out.trans hb1⟩
theorem txt_lt (l : List UInt8) (k : Nat) (hk : k ≤ l.length) : (txt (l.take k)).length ≤ (txt l).length ∧ ((txt (l.take k)).length < (txt l).length ↔ k < l.length) := by
  have e : txt l = txt (l.take k) ++ txt (l.drop k) := by rw [← txt_append, List.take_append_drop]
  have h1 := (txt_len (l.drop k))
  rw [List.length_drop] at h1
  have h2 : (txt l).length = (txt (l.take k)).length + (txt (l.drop k)).length := by rw [← List.length_append, ← e]
  constructor
  · omega
  · constructor <;> intro h <;> omega
/-- The loop of Bytes. -/
def ByR (w : World) (l : List UInt8) (o i : Value) (W : World) : Prop := ∃ k a c, k ≤ l.length ∧ i = .int .i64 ((txt (l.take k)).length : Int) ∧ o = .slice a k c ∧ W.ownsRow w.heap.size 5 1 (.slice a k c) k (u8s (l.take k)) ∧ Below w.heap.size w W
set_option maxHeartbeats 2000000 in
set_option maxRecDepth 100000 in
theorem bytes_c (A : Nat → Addr) (l : List UInt8) (w : World) (hl : l.length ≤ 200000) (hs : Sent 154 w A spks) :
    Calls Tryd.prog 28 #[.string (Str (txt l))] w fun e w' => ∃ a c, e = .returned (.tuple #[.slice a l.length c, .int .i64 ((txt l).length : Int), .nilIface]) ∧ w'.ownsRow w.heap.size 5 1 (.slice a l.length c) l.length (u8s l) ∧ Below w.heap.size w w' := by
  have hsz := Str_size (txt l)
  have hsl := Str_toList (txt l)
  have hts := (txt_len l).1
  obtain ⟨s, hse⟩ : ∃ s, Str (txt l) = s := ⟨_, rfl⟩
  rw [hse] at hsz hsl ⊢
  obtain ⟨N, hN⟩ : ∃ N, (txt l).length = N := ⟨_, rfl⟩
  rw [hN] at hsz hts ⊢
  have h0 : w.ownsRow w.heap.size 5 1 (.slice none 0 0) 0 [] := ⟨rfl, .inl ⟨rfl, rfl⟩⟩
  obtain ⟨n, hn⟩ : ∃ n, l.length = n := ⟨_, rfl⟩
  rw [hn] at hl hts ⊢
  have H0 := Lib.hid h0
  have Hsl := Lib.hid hsl
  have HN := Lib.hid hN
  have Hn := Lib.hid hn
  have HS := Lib.hid hs
  have HE := Lib.hid (Below.refl w.heap.size w)
  have e0 : evn A 0 = .nilIface := rfl
  clear h0 hsl hN hn hs hse
  go_enter Tryd.func28, Tryd.ntmps28
  go_wp2
  go_loopw [5, 6, 7, 8, 9] (fun o i _ _ _ W => ByR w l o i W) (fun _ i _ _ _ _ => N - (intOf i).toNat)
  case atStart => exact ⟨0, none, 0, Nat.zero_le _, rfl, rfl, H0.out, HE.out⟩
  case round =>
    obtain ⟨k, a, c, hk, rfl, rfl, hown, hB⟩ := hrel
    obtain ⟨hp, hiff⟩ := txt_lt l k hk
    rw [HN.out, Hn.out] at hiff
    rw [HN.out] at hp
    rw [Hn.out] at hk
    obtain ⟨p, hpe⟩ : ∃ p, (txt (l.take k)).length = p := ⟨_, rfl⟩
    rw [hpe] at hiff hp ⊢
    by_cases hlt : k < n
    · have hpN : p < N := hiff.2 hlt
      have hkl : k < l.length := by rw [Hn.out]; exact hlt
      have hrd := rd_txt l k hkl
      rw [hpe] at hrd
      have hp2 := txt_lt l (k + 1) hkl
      obtain ⟨p2, hpe2⟩ : ∃ p2, (txt (l.take (k + 1))).length = p2 := ⟨_, rfl⟩
      rw [hpe2] at hrd hp2
      rw [HN.out] at hp2
      have hpp : p < p2 := by
        have h1 : txt (l.take (k + 1)) = txt (l.take k) ++ sp outs l[k] := by rw [← txt_snoc, List.take_append_getElem hkl]
        have := (sp_len l[k]).2.1
        rw [← hpe2, h1, List.length_append, hpe]
        omega
      have htk : u8s (l.take (k + 1)) = u8s (l.take k) ++ [.int .u8 (l[k].toNat : Int)] := by rw [← List.take_append_getElem hkl, u8s_append]; rfl
      have hq := read_c A s p (by omega) wr (HS.out.keep hB)
      rw [Hsl.out, hrd] at hq
      simp only [resR] at hq
      rw [e0] at hq
      generalize l[k] = x at *
      have Hpe2 := Lib.hid hpe2
      have Htk := Lib.hid htk
      have HO := Lib.hid hown
      have HB := Lib.hid hB
      have Hp2 := Lib.hid hp2.1
      clear hpe hpe2 hp2 htk hiff hrd hown hB hlt hp
      go_wp2_with fail
      refine hq.mono ?_
      rintro e w1 ⟨rfl, hb1⟩
      clear hq
      have hB1 := HB.out.trans (hb1.mono HB.out.size)
      have own1 := own_keep HO.out hb1
      have b2 := (Below.refl w1.heap.size w1).alloc (Nat.le_refl _) (.cells #[.int .u8 (x.toNat : Int)] 5)
      obtain ⟨v', w2, hrun, own2, gr2, _⟩ := Num.elU8.append w.heap.size (ty := 45) (own_keep own1 b2) 1 1 rfl (Rd.new w1 #[.int .u8 (x.toNat : Int)] 5 (0, 0) [.int .u8 (x.toNat : Int)] rfl) (fun h => by cases h) (by intro u hu; simp at hu; subst hu; rfl) (by unfold maxLen; omega) (by omega) (by have := hB1.size; simp; omega)
      obtain ⟨a2, c2, rfl, _, _, _, _⟩ := rd_own own2
      have hB2 : Below w.heap.size w w2 := (hB1.alloc hB1.size _).trans (below_grown (own_keep own1 b2) gr2 (Nat.le_refl _) (by have := hB1.size; simp; omega))
      rw [← Htk.out] at own2
      have HO2 := Lib.hid own2
      have HB2 := Lib.hid hB2
      clear own1 own2 gr2 hB1 hB2 b2 hb1
      go_wp2_with (at_builtin; (with_reducible apply wpList_append_run hrun); rfl; rfl; rfl; rfl; rfl)
      go_roundw
      case rel => first | exact ⟨k + 1, a2, c2, hkl, by rw [Hpe2.out], rfl, HO2.out, HB2.out⟩ | ((repeat apply Exists.intro); refine ⟨?r, ?f⟩; (case f => (and_intros <;> rfl)); exact ⟨k + 1, a2, c2, hkl, by rw [Hpe2.out], rfl, HO2.out, HB2.out⟩)
      case measure => have := Hp2.out; simp [intOf]; omega
    · have hkn : k = n := by omega
      subst hkn
      rw [List.take_of_length_le (by rw [Hn.out]; exact Nat.le_refl _)] at hown
      have hpN : p = N := by
        have : ¬ p < N := fun h => hlt (hiff.1 h)
        omega
      subst hpN
      have HO := Lib.hid hown
      have HB := Lib.hid hB
      clear hown hB hiff hpe
      go_wp2
      go_ret3
      exact ⟨a, c, rfl, HO.out, HB.out⟩
set_option maxRecDepth 100000 in
theorem same_bytes (a b : Option Addr) (c1 c2 n : Nat) (l : List UInt8) (w : World) (hn : l.length = n) (hx : Rd w a (u8s l)) (hy : Rd w b (u8s l)) :
    Calls Tryd.prog 29 #[.slice a n c1, .slice b n c2] w fun e w' => e = .returned (.bool true) ∧ Below w.heap.size w w' := by
  have hc1 := fun nq => str_run (P := Tryd.prog) (dst := 9) Num.elU8.ht Tryd.underlying5 Tryd.underlying9 hx c1 nq
  have hc2 := fun nq => str_run (P := Tryd.prog) (dst := 9) Num.elU8.ht Tryd.underlying5 Tryd.underlying9 hy c2 nq
  rw [hn] at hc1 hc2
  have h1 : (convert 45 9 (.slice a n c1)).run Tryd.prog w = .ok (.string (Str l)) w := hc1 0
  have h2 : (convert 45 9 (.slice b n c2)).run Tryd.prog w = .ok (.string (Str l)) w := hc2 0
  clear hc1 hc2
  clear hx hy
  go_enter Tryd.func29, Tryd.ntmps29
  go_wp2
  go_ret
  exact ⟨by first | rfl | simp, Below.refl _ _⟩
end Sp
end Go.Proofs.YtbdpafdpkgeibaaDoor
