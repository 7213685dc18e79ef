/- The program: the closure that cites. -/
import Derived.Test.YtbmlnflacdockaaGreatDoorPrP
namespace Go.Proofs.YtbmlnflacdockaaGreatDoor
open Go.RowKit

theorem unitF_le (s : ByteArray) : (unitF s).2 ≤ s.size := by
  have h := indexByte_lt s.data.toList 93
  rw [← Lib.size_eq] at h
  have he : endF s < s.size := h
  unfold unitF
  split
  · simp
  · rename_i hc
    split
    · simp
    · cases numG 0 (midF s) with
      | none => simp [unitT]
      | some n =>
        show (if 1073741824 < n then ((0, 0) : Nat × Nat) else (n, (endF s).toNat + 1)).2 ≤ s.size
        by_cases hm : 1073741824 < n
        · rw [if_pos hm]; exact Nat.zero_le _
        · rw [if_neg hm]
          show (endF s).toNat + 1 ≤ s.size
          omega
theorem Bld.start (w : World) : Bld w.heap.size w.heap.size (Lib.byteCells []) (w.alloc (.cells #[.pointer none, .slice none 0 0] 105)) := .inl ⟨Nat.le_refl _, .slice none 0 0, by show (w.heap.push _)[w.heap.size]? = _; simp, ⟨by simp [Lib.byteCells], .inl ⟨rfl, rfl⟩⟩, by simp [Value.ownBlock]⟩
/-- the text from a byte on, expanded -/
def expG (f : Nat → ByteArray) (t : ByteArray) : Nat → Nat → List UInt8
  | 0, _ => []
  | g + 1, i => if i < t.size then (if t.data.toList.getD i 0 = 91 ∧ 0 < (unitF (t.extract i t.size)).2 then (f (unitF (t.extract i t.size)).1).data.toList ++ expG f t g (i + (unitF (t.extract i t.size)).2) else t.data.toList.getD i 0 :: expG f t g (i + 1)) else []
def expF (f : Nat → ByteArray) (t : ByteArray) : List UInt8 := expG f t t.size 0
theorem expG_end (f : Nat → ByteArray) (t : ByteArray) {g i : Nat} (h : t.size ≤ i) : expG f t g i = [] := by
  cases g with
  | zero => rfl
  | succ g => unfold expG; rw [if_neg (by omega)]
theorem Bld.below {B b : Nat} {bs : List Value} {w w' : World} (h : Bld B b bs w) (hb : Below w.heap.size w w') : Bld B b bs w' := by
  rcases h with ⟨h1, v, h2, h3, h4⟩ | ⟨h1, v, h2, h3, h4⟩
  · exact .inl ⟨h1, v, by rw [hb.block _ (heap_lt h2)]; exact h2, ownsRow_frame h3 (fun b hb' => hb.block _ (h3.lt b hb').2), h4⟩
  · exact .inr ⟨h1, v, by rw [hb.block _ (heap_lt h2)]; exact h2, ownsRow_frame h3 (fun b hb' => hb.block _ (h3.lt b hb').2), h4⟩
set_option maxRecDepth 100000 in
set_option maxHeartbeats 4000000 in
theorem expand_c (f : Nat → ByteArray) (c0 : Value) (t : ByteArray) (w : World) (ht : t.size ≤ 4096) (hS : SynOk w) (hf : ∀ u, (f u).size ≤ 200)
    (hp : ∀ (u : Nat) (W : World), Below w.heap.size w W → Calls Tryz.prog 69 #[.int .i64 u, c0] W fun e w' => e = .returned (.string (f u)) ∧ Below W.heap.size W w') :
    Calls Tryz.prog 60 #[.string t, .func (.func 69) #[] #[c0]] w fun e w' => e = .returned (.string ⟨(expF f t).toArray⟩) ∧ Below w.heap.size w w' := by
  have HP := Lib.hid hp
  have HF := Lib.hid hf
  have HS := Lib.hid hS
  have HU := Lib.hid (fun (s : ByteArray) (W : World) (hW : Below w.heap.size w W) => unit_c s W (HS.out.below HS.out.1 hW))
  have HE := Lib.hid (show expF f t = [] ++ expG f t t.size 0 from rfl)
  clear hp hf hS
  go_enter Tryz.func60, Tryz.ntmps60
  go_wp2
  go_loopw [6] (fun v6 wr => ∃ (i g : Nat) (out : List UInt8), i ≤ t.size ∧ t.size ≤ i + g ∧ v6 = .int .i64 i ∧ out.length ≤ 200 * i ∧ Hid (expF f t = out ++ expG f t g i) ∧ Bld w.heap.size w.heap.size (Lib.byteCells out) wr ∧ Below w.heap.size w wr) (fun v6 _ => t.size - (intOf v6).toNat)
  case atStart => exact ⟨0, t.size, [], Nat.zero_le _, by omega, rfl, by simp, HE, Bld.start w, (Below.refl _ _).alloc (Nat.le_refl _) _⟩
  case round =>
    clear HE
    obtain ⟨i, g, out, hi, hg, rfl, ho, HS2, hb, Br⟩ := hrel
    have hsr := Br.size
    by_cases hlt : i < t.size
    · obtain ⟨g', rfl⟩ : ∃ g', g = g' + 1 := ⟨g - 1, by omega⟩
      have HN := Lib.hid (show expG f t (g' + 1) i = if t.data.toList.getD i 0 = 91 ∧ 0 < (unitF (t.extract i t.size)).2 then (f (unitF (t.extract i t.size)).1).data.toList ++ expG f t g' (i + (unitF (t.extract i t.size)).2) else t.data.toList.getD i 0 :: expG f t g' (i + 1) by rw [expG, if_pos hlt])
      have hgd : t.data.toList.getD i 0 = t[i] := by
        rw [List.getD_eq_getElem?_getD, Array.getElem?_toList, Array.getElem?_eq_getElem (h := hlt)]
        rfl
      have hul := unitF_le (t.extract i t.size)
      rw [ByteArray.size_extract, Nat.min_self] at hul
      rw [hgd] at HN
      have HU1 := HU.out (t.extract i t.size) wr Br
      have HB := Lib.hid (fun (W : World) (hW : Below wr.heap.size wr W) => wbyte_c w.heap.size w.heap.size (Lib.byteCells out) (t[i].toNat) W (hb.below hW) (by rw [Lib.byteCells_length]; omega) (Nat.le_trans hsr hW.size))
      have HBC := Lib.hid (show Lib.byteCells out ++ [Value.int .u8 (t[i].toNat : Int)] = Lib.byteCells (out ++ [t[i]]) by rw [Lib.byteCells_append]; rfl)
      generalize unitF (t.extract i t.size) = un at *
      obtain ⟨u, n⟩ := un
      simp only at HN hul HU1
      have HU1 := Lib.hid HU1
      clear hgd
      by_cases hc : t[i] = 91
      · have hc1 : ((t[i].toNat : Int) == 91) = true := by rw [hc]; rfl
        by_cases hn : 0 < n
        · have hn1 : decide ((0 : Int) < (n : Int)) = true := decide_eq_true (by omega)
          have HM := Lib.hid (show expF f t = (out ++ (f u).data.toList) ++ expG f t g' (i + n) by rw [HS2.out, HN.out, if_pos ⟨hc, hn⟩, List.append_assoc])
          have hfu := HF.out u
          have HWS := Lib.hid (fun (W : World) (hW : Below wr.heap.size wr W) => wstr_c w.heap.size w.heap.size (Lib.byteCells out) (f u) W (hb.below hW) (by rw [Lib.byteCells_length]; omega) (Nat.le_trans hsr hW.size))
          clear hc HN HB HBC
          go_wp2_with fail
          refine HU1.out.mono ?_
          rintro e w1 ⟨rfl, hb1⟩
          go_wp2_with fail
          refine (HP.out u _ (Br.trans (hb1.mono hsr))).mono ?_
          rintro e w2 ⟨rfl, hb2⟩
          have hb12 := hb1.trans (hb2.mono hb1.size)
          go_wp2_with fail
          refine (HWS.out _ hb12).mono ?_
          rintro e w3 ⟨rfl, hbl, hb3⟩
          go_wp2
          go_roundw
          case rel => exact ⟨i + n, g', out ++ (f u).data.toList, by omega, by omega, by go_num, by rw [List.length_append, ← Lib.size_eq]; omega, HM, by rw [Lib.byteCells_append]; exact .inr hbl, Br.trans ((hb12.mono hsr).trans hb3)⟩
          case measure => simp [intOf]; omega
        · have hn1 : decide ((0 : Int) < (n : Int)) = false := decide_eq_false (by omega)
          have HM := Lib.hid (show expF f t = (out ++ [t[i]]) ++ expG f t g' (i + 1) by rw [HS2.out, HN.out, if_neg (fun c => hn c.2), List.append_assoc]; rfl)
          clear hc HN
          go_wp2_with fail
          refine HU1.out.mono ?_
          rintro e w1 ⟨rfl, hb1⟩
          go_wp2_with fail
          refine (HB.out _ hb1).mono ?_
          rintro e w3 ⟨rfl, hbl, hb3⟩
          go_wp2
          go_roundw
          case rel => exact ⟨i + 1, g', out ++ [t[i]], by omega, by omega, by go_num, by rw [List.length_append, List.length_singleton]; omega, HM, by rw [← HBC.out]; exact .inr hbl, Br.trans ((hb1.mono hsr).trans hb3)⟩
          case measure => simp [intOf]; omega
      · have hc1 : ((t[i].toNat : Int) == 91) = false := by
          rw [beq_eq_false_iff_ne]
          intro e
          exact hc (UInt8.toNat_inj.1 (by simpa using Int.ofNat_inj.1 e))
        have HM := Lib.hid (show expF f t = (out ++ [t[i]]) ++ expG f t g' (i + 1) by rw [HS2.out, HN.out, if_neg (fun c => hc c.1), List.append_assoc]; rfl)
        clear hc HN
        go_wp2_with fail
        refine (HB.out _ (Below.refl _ _)).mono ?_
        rintro e w3 ⟨rfl, hbl, hb3⟩
        go_wp2
        go_roundw
        case rel => exact ⟨i + 1, g', out ++ [t[i]], by omega, by omega, by go_num, by rw [List.length_append, List.length_singleton]; omega, HM, by rw [← HBC.out]; exact .inr hbl, Br.trans hb3⟩
        case measure => simp [intOf]; omega
    · have HR := Lib.hid (show expF f t = out by rw [HS2.out, expG_end f t (by omega), List.append_nil])
      have HST := Lib.hid (Tryz.Builder_String_any w.heap.size w.heap.size out wr hb hsr)
      go_wp2_with fail
      refine HST.out.mono ?_
      rintro e w3 ⟨rfl, hb3⟩
      go_wp2
      go_ret
      exact ⟨ret_val (by rw [HR.out]; rfl), Br.trans hb3⟩
open Go.RowKit

theorem citeF_size {c : Cat} (h : catE c = 0) (u : Int) : (citeF c.sheets u).size ≤ 200 := by
  unfold citeF
  split
  · decide
  · cases hx : c.sheets[(shtIx c.sheets u).toNat]? with
    | none => exact Nat.zero_le _
    | some s =>
      obtain ⟨-, ⟨h1, -, h3⟩, -⟩ := (catE_zero h).2.2.2 s (List.mem_of_getElem? hx)
      show (citeS s).size ≤ 200
      unfold citeS
      split
      · omega
      · rw [ByteArray.size_append, ByteArray.size_append]
        show s.mark.size + 1 + s.title.size ≤ 200
        omega
set_option maxRecDepth 100000 in
set_option maxHeartbeats 2000000 in
theorem cites_c (c : Cat) (u : Int) (g : Nat) (v1 v2 v3 : Value) (w : World) (B : Nat) (hB : B ≤ w.heap.size) (h : Sheets w B c.sheets v3) (h0 : catE c = 0)
    (g0 : w.cell? ⟨g, 0, none⟩ = some v1) (g1 : w.cell? ⟨g, 1, none⟩ = some v2) (g2 : w.cell? ⟨g, 2, none⟩ = some v3) :
    Calls Tryz.prog 69 #[.int .i64 u, .pointer (some ⟨g, 0, none⟩)] w fun e w' => e = .returned (.string (citeF c.sheets u)) ∧ Below w.heap.size w w' := by
  have HCI := Lib.hid (cite_c c u v1 v2 v3 w B hB h (fun s hs => by have := ((catE_zero h0).2.2.2 s hs).2.1; exact ⟨this.1, this.2.2⟩))
  clear h0 h
  go_enter Tryz.func69, Tryz.ntmps69
  go_wp2_with fail
  refine HCI.out.mono ?_
  rintro e w1 ⟨rfl, hb1⟩
  go_wp2
  go_ret
  exact ⟨rfl, hb1⟩
end Go.Proofs.YtbmlnflacdockaaGreatDoor
