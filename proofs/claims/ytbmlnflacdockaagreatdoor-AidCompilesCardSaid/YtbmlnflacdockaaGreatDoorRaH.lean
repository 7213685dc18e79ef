/- The reference of chapter 47: number, Number. -/
import Derived.Test.YtbmlnflacdockaaGreatDoorPrR
import Derived.Test.YtbmlnflacdockaaGreatDoorRaD
import Derived.Test.YtbmlnflacdockaaGreatDoorPrH
import Derived.Test.YtbmlnflacdockaaGreatDoorPrK
import Derived.Test.YtbmlnflacdockaaGreatDoorPcA
import Derived.Test.YtbmlnflacdockaaGreatDoorPlP
namespace Go.Proofs.YtbmlnflacdockaaGreatDoor
open Go.RowKit

set_option maxRecDepth 100000 in
set_option maxHeartbeats 4000000 in
theorem expand_cX (f : Nat → ByteArray) (c0 : Value) (t : ByteArray) (w : World) (ht : t.size ≤ 4096) (hS : SynOk w) (hf : ∀ u, (f u).size ≤ 200)
    (hp : ∀ (u : Nat) (W : World), Below w.heap.size w W → Calls Tryz.prog 61 #[.int .i64 u, c0] W fun e w' => e = .returned (.string (f u)) ∧ Below W.heap.size W w') :
    Calls Tryz.prog 60 #[.string t, .func (.func 61) #[] #[c0]] w fun e w' => e = .returned (.string ⟨(expF f t).toArray⟩) ∧ Below w.heap.size w w' := by
  have HP := Lib.hid hp
  have HF := Lib.hid hf
  have HS := Lib.hid hS
  have HU := Lib.hid (fun (s : ByteArray) (W : World) (hW : Below w.heap.size w W) => unit_c s W (HS.out.below HS.out.1 hW))
  have HE := Lib.hid (show expF f t = [] ++ expG f t t.size 0 from rfl)
  clear hp hf hS
  go_enter Tryz.func60, Tryz.ntmps60
  go_wp2
  go_loopw [6] (fun v6 wr => ∃ (i g : Nat) (out : List UInt8), i ≤ t.size ∧ t.size ≤ i + g ∧ v6 = .int .i64 i ∧ out.length ≤ 200 * i ∧ Hid (expF f t = out ++ expG f t g i) ∧ Bld w.heap.size w.heap.size (Lib.byteCells out) wr ∧ Below w.heap.size w wr) (fun v6 _ => t.size - (intOf v6).toNat)
  case atStart => exact ⟨0, t.size, [], Nat.zero_le _, by omega, rfl, by simp, HE, Bld.start w, (Below.refl _ _).alloc (Nat.le_refl _) _⟩
  case round =>
    clear HE
    obtain ⟨i, g, out, hi, hg, rfl, ho, HS2, hb, Br⟩ := hrel
    have hsr := Br.size
    by_cases hlt : i < t.size
    · obtain ⟨g', rfl⟩ : ∃ g', g = g' + 1 := ⟨g - 1, by omega⟩
      have HN := Lib.hid (show expG f t (g' + 1) i = if t.data.toList.getD i 0 = 91 ∧ 0 < (unitF (t.extract i t.size)).2 then (f (unitF (t.extract i t.size)).1).data.toList ++ expG f t g' (i + (unitF (t.extract i t.size)).2) else t.data.toList.getD i 0 :: expG f t g' (i + 1) by rw [expG, if_pos hlt])
      have hgd : t.data.toList.getD i 0 = t[i] := by
        rw [List.getD_eq_getElem?_getD, Array.getElem?_toList, Array.getElem?_eq_getElem (h := hlt)]
        rfl
      have hul := unitF_le (t.extract i t.size)
      rw [ByteArray.size_extract, Nat.min_self] at hul
      rw [hgd] at HN
      have HU1 := HU.out (t.extract i t.size) wr Br
      have HB := Lib.hid (fun (W : World) (hW : Below wr.heap.size wr W) => wbyte_c w.heap.size w.heap.size (Lib.byteCells out) (t[i].toNat) W (hb.below hW) (by rw [Lib.byteCells_length]; omega) (Nat.le_trans hsr hW.size))
      have HBC := Lib.hid (show Lib.byteCells out ++ [Value.int .u8 (t[i].toNat : Int)] = Lib.byteCells (out ++ [t[i]]) by rw [Lib.byteCells_append]; rfl)
      generalize unitF (t.extract i t.size) = un at *
      obtain ⟨u, n⟩ := un
      simp only at HN hul HU1
      have HU1 := Lib.hid HU1
      clear hgd
      by_cases hc : t[i] = 91
      · have hc1 : ((t[i].toNat : Int) == 91) = true := by rw [hc]; rfl
        by_cases hn : 0 < n
        · have hn1 : decide ((0 : Int) < (n : Int)) = true := decide_eq_true (by omega)
          have HM := Lib.hid (show expF f t = (out ++ (f u).data.toList) ++ expG f t g' (i + n) by rw [HS2.out, HN.out, if_pos ⟨hc, hn⟩, List.append_assoc])
          have hfu := HF.out u
          have HWS := Lib.hid (fun (W : World) (hW : Below wr.heap.size wr W) => wstr_c w.heap.size w.heap.size (Lib.byteCells out) (f u) W (hb.below hW) (by rw [Lib.byteCells_length]; omega) (Nat.le_trans hsr hW.size))
          clear hc HN HB HBC
          go_wp2_with fail
          refine HU1.out.mono ?_
          rintro e w1 ⟨rfl, hb1⟩
          go_wp2_with fail
          refine (HP.out u _ (Br.trans (hb1.mono hsr))).mono ?_
          rintro e w2 ⟨rfl, hb2⟩
          have hb12 := hb1.trans (hb2.mono hb1.size)
          go_wp2_with fail
          refine (HWS.out _ hb12).mono ?_
          rintro e w3 ⟨rfl, hbl, hb3⟩
          go_wp2
          go_roundw
          case rel => exact ⟨i + n, g', out ++ (f u).data.toList, by omega, by omega, by go_num, by rw [List.length_append, ← Lib.size_eq]; omega, HM, by rw [Lib.byteCells_append]; exact .inr hbl, Br.trans ((hb12.mono hsr).trans hb3)⟩
          case measure => simp [intOf]; omega
        · have hn1 : decide ((0 : Int) < (n : Int)) = false := decide_eq_false (by omega)
          have HM := Lib.hid (show expF f t = (out ++ [t[i]]) ++ expG f t g' (i + 1) by rw [HS2.out, HN.out, if_neg (fun c => hn c.2), List.append_assoc]; rfl)
          clear hc HN
          go_wp2_with fail
          refine HU1.out.mono ?_
          rintro e w1 ⟨rfl, hb1⟩
          go_wp2_with fail
          refine (HB.out _ hb1).mono ?_
          rintro e w3 ⟨rfl, hbl, hb3⟩
          go_wp2
          go_roundw
          case rel => exact ⟨i + 1, g', out ++ [t[i]], by omega, by omega, by go_num, by rw [List.length_append, List.length_singleton]; omega, HM, by rw [← HBC.out]; exact .inr hbl, Br.trans ((hb1.mono hsr).trans hb3)⟩
          case measure => simp [intOf]; omega
      · have hc1 : ((t[i].toNat : Int) == 91) = false := by
          rw [beq_eq_false_iff_ne]
          intro e
          exact hc (UInt8.toNat_inj.1 (by simpa using Int.ofNat_inj.1 e))
        have HM := Lib.hid (show expF f t = (out ++ [t[i]]) ++ expG f t g' (i + 1) by rw [HS2.out, HN.out, if_neg (fun c => hc c.1), List.append_assoc]; rfl)
        clear hc HN
        go_wp2_with fail
        refine (HB.out _ (Below.refl _ _)).mono ?_
        rintro e w3 ⟨rfl, hbl, hb3⟩
        go_wp2
        go_roundw
        case rel => exact ⟨i + 1, g', out ++ [t[i]], by omega, by omega, by go_num, by rw [List.length_append, List.length_singleton]; omega, HM, by rw [← HBC.out]; exact .inr hbl, Br.trans hb3⟩
        case measure => simp [intOf]; omega
    · have HR := Lib.hid (show expF f t = out by rw [HS2.out, expG_end f t (by omega), List.append_nil])
      have HST := Lib.hid (Tryz.Builder_String_any w.heap.size w.heap.size out wr hb hsr)
      go_wp2_with fail
      refine HST.out.mono ?_
      rintro e w3 ⟨rfl, hb3⟩
      go_wp2
      go_ret
      exact ⟨ret_val (by rw [HR.out]; rfl), Br.trans hb3⟩
open Go.RowKit

theorem citeF_sizeX {c : Cat} (h : catE c = 0) (u : Int) : (citeF c.sheets u).size ≤ 200 := by
  unfold citeF
  split
  · decide
  · cases hx : c.sheets[(shtIx c.sheets u).toNat]? with
    | none => exact Nat.zero_le _
    | some s =>
      obtain ⟨-, ⟨h1, -, h3⟩, -⟩ := (catE_zero h).2.2.2 s (List.mem_of_getElem? hx)
      show (citeS s).size ≤ 200
      unfold citeS
      split
      · omega
      · rw [ByteArray.size_append, ByteArray.size_append]
        show s.mark.size + 1 + s.title.size ≤ 200
        omega
set_option maxRecDepth 100000 in
set_option maxHeartbeats 2000000 in
theorem cites_cX (c : Cat) (u : Int) (g : Nat) (v1 v2 v3 : Value) (w : World) (B : Nat) (hB : B ≤ w.heap.size) (h : Sheets w B c.sheets v3) (h0 : catE c = 0)
    (g0 : w.cell? ⟨g, 0, none⟩ = some v1) (g1 : w.cell? ⟨g, 1, none⟩ = some v2) (g2 : w.cell? ⟨g, 2, none⟩ = some v3) :
    Calls Tryz.prog 61 #[.int .i64 u, .pointer (some ⟨g, 0, none⟩)] w fun e w' => e = .returned (.string (citeF c.sheets u)) ∧ Below w.heap.size w w' := by
  have HCI := Lib.hid (cite_c c u v1 v2 v3 w B hB h (fun s hs => by have := ((catE_zero h0).2.2.2 s hs).2.1; exact ⟨this.1, this.2.2⟩))
  clear h0 h
  go_enter Tryz.func61, Tryz.ntmps61
  go_wp2_with fail
  refine HCI.out.mono ?_
  rintro e w1 ⟨rfl, hb1⟩
  go_wp2
  go_ret
  exact ⟨rfl, hb1⟩
open Go.RowKit

set_option maxRecDepth 100000 in
set_option maxHeartbeats 4000000 in
theorem rcite_c (c : Cat) (u : Int) (v1 v2 v3 : Value) (w : World) (B : Nat) (hB : B ≤ w.heap.size) (h : CatRep w B c v1 v2 v3) (hz : ∀ s ∈ c.sheets, s.mark.size ≤ 64 ∧ s.title.size ≤ 64) :
    Calls Tryz.prog 59 #[.agg #[v1, v2, v3], .int .i64 u] w fun e w' => e = .returned (.string (citeF c.sheets u)) ∧ Below w.heap.size w w' := by
  have b1 : Below w.heap.size w (w.alloc (catC v1 v2 v3)) := (Below.refl _ _).alloc (Nat.le_refl _) _
  have KC := Lib.hid (fun (W : World) (hW : Below (w.heap.size + 1) (w.alloc (catC v1 v2 v3)) W) => cat_at3 hW)
  have HF := Lib.hid (fun (W : World) (hW : Below w.heap.size w W) => rindex_c c c.sheets.length u v1 v2 v3 W B (Nat.le_trans hB hW.size) (h.sheets.below shtS (hW.mono hB)) (Nat.le_refl _))
  rw [List.take_length] at HF
  have hb0 : Below (w.heap.size + 1) (w.alloc (catC v1 v2 v3)) (w.alloc (catC v1 v2 v3)) := Below.refl _ _
  obtain ⟨A1, ca1, rfl, -⟩ := id h.langs
  obtain ⟨A2, ca2, rfl, -⟩ := id h.labels
  obtain ⟨A, ca, rfl, hc1, hc2, _⟩ := id h.sheets
  rcases idxF_cases (fun s : Sheet => decide (s.unit = u)) c.sheets with ⟨h1, -⟩ | ⟨k, s, h1, h2, -, -⟩
  · have hi : shtIx c.sheets u = -1 := h1
    have HE := Lib.hid (show citeF c.sheets u = ⟨#[63]⟩ by unfold citeF; rw [hi]; rfl)
    rw [hi] at HF
    clear h1 hi
    go_enter Tryz.func59, Tryz.ntmps59
    go_wp2_with fail
    refine (HF.out _ b1).mono ?_
    rintro e w1 ⟨rfl, hb1⟩
    go_wp2
    go_ret
    exact ⟨ret_val (congrArg Value.string HE.out.symm), b1.trans (hb1.mono (by simp))⟩
  · have hi : shtIx c.sheets u = (k : Int) := h1
    have HC := Lib.hid (show citeF c.sheets u = citeS s by unfold citeF; rw [hi, if_neg (by omega)]; simp [h2])
    rw [hi] at HF
    have hkl := lt_of_at h2
    have hki0 : (0 : Int) ≤ (k : Int) := by omega
    have hki1 : (k : Int) < (c.sheets.length : Int) := by omega
    have hki2 : decide ((k : Int) < 0) = false := by simp
    clear h1 hi
    go_enter Tryz.func59, Tryz.ntmps59
    go_wp2_with fail
    refine (HF.out _ b1).mono ?_
    rintro e w1 ⟨rfl, hb1⟩
    have hbX := bnd_call hb0 (by simp) hb1
    obtain ⟨z0, z1, z2, zl⟩ := KC.out _ hbX
    have B1 := b1.trans (hbX.mono (Nat.le_succ _))
    obtain ⟨b, off, vf, rfl, hbB, g0, g1, g2, g3, g4, g5, hvf⟩ := Sheets.at_ (h.sheets.below shtS (B1.mono hB)) h2
    have hbw : b < w1.heap.size := by have : b < B := hbB; have := B1.size; omega
    obtain ⟨hz1, hz2⟩ := hz s (List.mem_of_getElem? h2)
    clear h2 g0 g1 g2 g5
    by_cases hm : s.mark = ⟨#[]⟩
    · have HE := Lib.hid (show citeF c.sheets u = s.title by rw [HC.out]; unfold citeS; rw [if_pos hm])
      have hm1 : s.mark.toList.isEmpty = true := by rw [str_empty, hm]; rfl
      have hm2 : (s.mark.toList == ([] : List UInt8)) = true := by simpa using hm1
      clear HC hm
      go_wp2
      go_ret
      exact ⟨ret_val (congrArg Value.string HE.out.symm), B1⟩
    · have HE := Lib.hid (show citeF c.sheets u = s.mark ++ ⟨#[32]⟩ ++ s.title by rw [HC.out]; unfold citeS; rw [if_neg hm])
      have hm1 : s.mark.toList.isEmpty = false := by
        rw [str_empty, decide_eq_false_iff_not]
        intro e
        exact hm (ByteArray.ext (Array.eq_empty_of_size_eq_zero e))
      have hm2 : (s.mark.toList == ([] : List UInt8)) = false := by simpa using hm1
      have hq1 : ¬ 9223372036854775807 < s.mark.size + 1 := by omega
      have hq2 : ¬ 9223372036854775807 < s.mark.size + 1 + s.title.size := by omega
      have hq3 : (s.mark ++ ⟨#[32]⟩).size = s.mark.size + 1 := by rw [ByteArray.size_append]; rfl
      clear HC hm
      go_wp2
      go_quiet (fail)
      go_wp2
      go_ret
      exact ⟨ret_val (congrArg Value.string HE.out.symm), B1.trans (below_of_drew _ ⟨_, rfl⟩)⟩
set_option maxRecDepth 100000 in
set_option maxHeartbeats 4000000 in
theorem rCite_c (c : Cat) (u : Int) (v1 v2 v3 : Value) (w : World) (B : Nat) (hB : B ≤ w.heap.size) (h : CatRep w B c v1 v2 v3) (hl : c.sheets.length ≤ 1000) :
    Calls Tryz.prog 25 #[.agg #[v1, v2, v3], .int .i64 u] w fun e w' => e = .returned (.string (citeR c u)) ∧ Below w.heap.size w w' := by
  have b1 : Below w.heap.size w (w.alloc (catC v1 v2 v3)) := (Below.refl _ _).alloc (Nat.le_refl _) _
  have hb0 : Below (w.heap.size + 1) (w.alloc (catC v1 v2 v3)) (w.alloc (catC v1 v2 v3)) := Below.refl _ _
  have KC := Lib.hid (fun (W : World) (hW : Below (w.heap.size + 1) (w.alloc (catC v1 v2 v3)) W) => cat_at3 hW)
  have HCK := Lib.hid (fun (W : World) (hW : Below w.heap.size w W) => rcheck47_c c v1 v2 v3 W B (Nat.le_trans hB hW.size) (h.below (hW.mono hB)) hl)
  by_cases h1 : catE c = 0
  · obtain ⟨-, -, -, hz⟩ := catE_zero h1
    have HCI := Lib.hid (fun (W : World) (hW : Below w.heap.size w W) => rcite_c c u v1 v2 v3 W B (Nat.le_trans hB hW.size) (h.below (hW.mono hB)) (fun s hs => ⟨(hz s hs).2.1.1, (hz s hs).2.1.2.2⟩))
    have HE := Lib.hid (show citeR c u = citeF c.sheets u by unfold citeR; rw [if_pos h1])
    rw [h1] at HCK
    clear h1 hz
    go_enter Tryz.func25, Tryz.ntmps25
    go_wp2_with fail
    refine (HCK.out _ b1).mono ?_
    rintro e w1 ⟨rfl, hb1⟩
    have hbX := bnd_call hb0 (by simp) hb1
    obtain ⟨z0, z1, z2, zl⟩ := KC.out _ hbX
    have B1 := b1.trans (hbX.mono (Nat.le_succ _))
    go_wp2_with fail
    refine (HCI.out _ B1).mono ?_
    rintro e w2 ⟨rfl, hb2⟩
    go_wp2
    go_ret
    exact ⟨ret_val (congrArg Value.string HE.out.symm), B1.trans (hb2.mono B1.size)⟩
  · have HE := Lib.hid (show citeR c u = ⟨#[]⟩ by unfold citeR; rw [if_neg h1])
    obtain ⟨n1, n2⟩ := ne_boolR h1
    clear h1
    go_enter Tryz.func25, Tryz.ntmps25
    go_wp2_with fail
    refine (HCK.out _ b1).mono ?_
    rintro e w1 ⟨rfl, hb1⟩
    have hbX := bnd_call hb0 (by simp) hb1
    go_wp2
    go_ret
    exact ⟨ret_val (congrArg Value.string HE.out.symm), b1.trans (hbX.mono (Nat.le_succ _))⟩
def factB (e : Int) (s : ByteArray) (f : Fact) : Bool := decide (f.el = e) && decide (f.lang = s)
theorem rfact_c (l : List Fact) (e : Int) (s : ByteArray) (v : Value) (w : World) (F : Nat → Prop) (hF : ∀ b, F b → b < w.heap.size) (h : SlRep 3 (flat Fact.enc) w F l v) :
    Calls Tryz.prog 82 #[v, .int .i64 e, .string s] w fun r w' => r = .returned (.int .i64 (idxF (factB e s) l)) ∧ w = w' := by
  obtain ⟨A, c, rfl, hc1, hc2, _⟩ := id h
  have HE := Lib.hid (show idxF (factB e s) l = idxG (factB e s) (l.drop 0) 0 from rfl)
  go_enter Tryz.func82, Tryz.ntmps82
  go_wp2
  go_loop [7] (fun i => ∃ k : Nat, k ≤ l.length ∧ i = .int .i64 k ∧ Hid (idxF (factB e s) l = idxG (factB e s) (l.drop k) k)) (fun i => l.length - (intOf i).toNat)
  case atStart => exact ⟨0, Nat.zero_le _, rfl, HE⟩
  case round =>
    clear HE
    obtain ⟨k, hk, rfl, HS⟩ := hrel
    by_cases hlt : k < l.length
    · obtain ⟨x, hx⟩ := get_at l hlt
      have HD := Lib.hid (drop_at hx)
      obtain ⟨b, off, rfl, hbB, g0, g1, g2⟩ := Facts.at_ h hx
      have hbw : b < w.heap.size := hF b hbB
      clear hx
      by_cases hxe : x.el = e
      · have e1 : (x.el == e) = true := by simp [hxe]
        by_cases hxm : x.lang = s
        · have he : x.lang.toList = s.toList := by rw [hxm]
          have he2 : (x.lang.toList == s.toList) = true := by simp [he]
          have HX := Lib.hid (show idxF (factB e s) l = k by rw [HS.out, HD.out]; simp [idxG, factB, hxe, hxm])
          clear hxm hxe
          go_wp2
          go_ret
          exact ⟨ret_int HX.out.symm, rfl⟩
        · have he : ¬ x.lang.toList = s.toList := by rw [str_iff]; exact hxm
          have he2 : (x.lang.toList == s.toList) = false := by simp [he]
          have HX := Lib.hid (show idxF (factB e s) l = idxG (factB e s) (l.drop (k + 1)) (k + 1) by rw [HS.out, HD.out]; simp [idxG, factB, hxm])
          clear hxm hxe
          go_wp2
          go_round
          case rel => exact ⟨k + 1, by omega, by go_num, HX⟩
          case measure => simp [intOf]; omega
      · have e1 : (x.el == e) = false := by simp [hxe]
        have HX := Lib.hid (show idxF (factB e s) l = idxG (factB e s) (l.drop (k + 1)) (k + 1) by rw [HS.out, HD.out]; simp [idxG, factB, hxe])
        clear hxe
        go_wp2
        go_round
        case rel => exact ⟨k + 1, by omega, by go_num, HX⟩
        case measure => simp [intOf]; omega
    · have HX := Lib.hid (show idxF (factB e s) l = -1 by rw [HS.out, List.drop_of_length_le (by omega)]; rfl)
      go_wp2
      go_ret
      exact ⟨ret_int HX.out.symm, rfl⟩
theorem factAt_idx (l : List Fact) (e : Int) (s : ByteArray) : (idxF (factB e s) l = -1 ∧ factAt l e s = none) ∨ ∃ (k : Nat) (x : Fact), idxF (factB e s) l = k ∧ l[k]? = some x ∧ factAt l e s = some x := by
  have gen : ∀ (l : List Fact) (i : Nat), (idxG (factB e s) l i = -1 ∧ factAt l e s = none) ∨ ∃ (k : Nat) (x : Fact), idxG (factB e s) l i = ((i + k : Nat) : Int) ∧ l[k]? = some x ∧ factAt l e s = some x := by
    intro l
    induction l with
    | nil => intro i; exact .inl ⟨rfl, rfl⟩
    | cons x r ih =>
      intro i
      unfold idxG factAt
      cases hp : factB e s x
      · rw [if_neg (by simp), List.find?_cons_of_neg (by unfold factB at hp; simpa using hp)]
        rcases ih (i + 1) with ⟨h1, h2⟩ | ⟨k, y, h1, h2, h3⟩
        · exact .inl ⟨h1, h2⟩
        · exact .inr ⟨k + 1, y, h1.trans (by omega), by simpa using h2, h3⟩
      · rw [if_pos rfl, List.find?_cons_of_pos (by unfold factB at hp; simpa using hp)]
        exact .inr ⟨0, x, rfl, rfl, rfl⟩
  rcases gen l 0 with h | ⟨k, x, h1, h2, h3⟩
  · exact .inl h
  · exact .inr ⟨k, x, h1.trans (by simp), h2, h3⟩
theorem rchooseG_cons (l : List Fact) (ord : List ByteArray) (p : Option Fact) (f : Fact) (r : List Fact) : rchooseG l ord p (f :: r) = if (p.any fun q => decide (q.el = f.el)) = true then rchooseG l ord (some f) r else (firstLang l f.el ord).toList ++ rchooseG l ord (some f) r := rfl
set_option maxRecDepth 100000 in
set_option maxHeartbeats 8000000 in
theorem rchoose_c (l : List Fact) (ord : List ByteArray) (v vo : Value) (w : World) (B : Nat) (hB : B ≤ w.heap.size) (h : Facts w B l v) (ho : Strs w B ord vo) (hl : l.length ≤ 1000) :
    Calls Tryz.prog 55 #[v, vo] w fun e w' => ∃ v', e = .returned v' ∧ OwnRep 3 (flat Fact.enc) 49 w.heap.size w' (rchooseF l ord) v' ∧ Below w.heap.size w w' := by
  obtain ⟨A, ca, rfl, hc1, hc2, _⟩ := id h
  obtain ⟨Ao, co, rfl, hd1, hd2, _⟩ := id ho
  have HFA := Lib.hid (fun (e : Int) (s : ByteArray) (W : World) (hW : Below w.heap.size w W) => rfact_c l e s (.slice A l.length ca) W (fun b => b < B) (fun b hb => by have : b < B := hb; have := hW.size; omega) (h.below fctS (hW.mono hB)))
  have HX := Lib.hid (fun (i : Nat) (x : Fact) (hx : l[i]? = some x) (W : World) (hW : Below w.heap.size w W) => Facts.at_ (h.below fctS (hW.mono hB)) hx)
  have HO := Lib.hid (fun (i : Nat) (x : ByteArray) (hx : ord[i]? = some x) (W : World) (hW : Below w.heap.size w W) => Strs.at_ (ho.below strS (hW.mono hB)) hx)
  go_enter Tryz.func55, Tryz.ntmps55
  go_wp2
  go_loopw [5, 6] (fun vo vi wr => ∃ (k : Nat) (o : List Fact), k ≤ l.length ∧ vi = .int .i64 k ∧ o.length ≤ k ∧ Hid (rchooseF l ord = o ++ rchooseG l ord (prevO l k) (l.drop k)) ∧ OwnRep 3 (flat Fact.enc) 49 w.heap.size wr o vo ∧ Below w.heap.size w wr) (fun _ vi _ => l.length - (intOf vi).toNat)
  case atStart => exact ⟨0, [], Nat.zero_le _, rfl, Nat.le_refl _, Lib.hid rfl, OwnRep.nil_, Below.refl _ _⟩
  case round =>
    obtain ⟨k, o, hk, rfl, hok, HS, hown, hb⟩ := hrel
    by_cases hlt : k < l.length
    · obtain ⟨x, hx⟩ := get_at l hlt
      have HD := Lib.hid (drop_at hx)
      have HPV := Lib.hid (prevO_succ hx)
      have hbs := hb.size
      have HXX := Lib.hid hx
      obtain ⟨b, off, e9, hbB, g0, -⟩ := HX.out k x hx _ hb
      subst e9
      have hbw : b < wr.heap.size := by have : b < B := hbB; omega
      have hki : (k : Int) < (l.length : Int) := by omega
      have HFI := Lib.hid (fun (m : Nat) (W : World) (hW : W.heap = wr.heap) (s : ByteArray) => (rfact_c l x.el s (.slice (some ⟨b, off, none⟩) l.length ca) W (fun b => b < B) (fun b' hb' => by have : b' < B := hb'; rw [hW]; omega) ((h.below fctS (hb.mono hB)).frame fctS (fun _ _ => by rw [hW]))))
      clear hx
      -- the element was taken by the fact before
      by_cases hp : ((prevO l k).any fun q => decide (q.el = x.el)) = true
      · have HN := Lib.hid (show rchooseF l ord = o ++ rchooseG l ord (prevO l (k + 1)) (l.drop (k + 1)) by rw [HS.out, HD.out, rchooseG_cons, if_pos hp, HPV.out])
        obtain ⟨k', rfl⟩ : ∃ k', k = k' + 1 := ⟨k - 1, by
          rcases Nat.eq_zero_or_pos k with e | e
          · subst e; rw [prevO_zero] at hp; cases hp
          · omega⟩
        obtain ⟨q, hq⟩ := get_at l (show k' < l.length by omega)
        rw [prevO_succ hq] at hp
        obtain ⟨_, _, e9, -, q0, -⟩ := HX.out k' q hq _ hb
        cases e9
        have he : (q.el == x.el) = true := by simpa using hp
        have hki0 : (0 : Int) ≤ (k' : Int) := by omega
        have hki1 : (k' : Int) < (l.length : Int) := by omega
        have hki2 : decide ((0 : Int) < (k' : Int) + 1) = true := decide_eq_true (by omega)
        have hw0 : IntKind.i64.wrap ((k' : Int) + 1 - 1) = (k' : Int) := by rw [Int.add_sub_cancel]; exact IntWalk.i64_in _ (by omega)
        have hw1 : IntKind.i64.wrap (k' : Int) = (k' : Int) := IntWalk.i64_in _ (by omega)
        rw [show ((k' + 1 : Nat) : Int) = (k' : Int) + 1 from rfl] at hki ⊢
        clear hq hp
        go_wp2
        go_quiet (fail)
        go_wp2
        go_roundw
        case rel => exact ⟨k' + 1 + 1, o, by omega, by go_num, by omega, HN, hown.below fctS (below_of_drew _ ⟨_, rfl⟩), hb.trans (below_of_drew _ ⟨_, rfl⟩)⟩
        case measure => simp [intOf]; omega
      · have HN := Lib.hid (show rchooseF l ord = o ++ ((firstLang l x.el ord).toList ++ rchooseG l ord (prevO l (k + 1)) (l.drop (k + 1))) by rw [HS.out, HD.out, rchooseG_cons, if_neg hp, HPV.out])
        go_upto_region 5 with fail
        go_cut [30] (fun p W => p = .bool false ∧ ∃ n, W = wr.drewN n)
        case first =>
          rcases Nat.eq_zero_or_pos k with hk0 | hk0
          · subst hk0
            simp only [Nat.zero_mul, Nat.add_zero] at g0
            clear hp
            go_quiet (fail)
            go_wp2_with fail
            go_meet
            exact ⟨rfl, _, rfl⟩
          · obtain ⟨k', rfl⟩ : ∃ k', k = k' + 1 := ⟨k - 1, by omega⟩
            obtain ⟨q, hq⟩ := get_at l (show k' < l.length by omega)
            rw [prevO_succ hq] at hp
            obtain ⟨_, _, e9, -, q0, -⟩ := HX.out k' q hq _ hb
            cases e9
            have he : (q.el == x.el) = false := by simpa using hp
            have hki0 : (0 : Int) ≤ (k' : Int) := by omega
            have hki1 : (k' : Int) < (l.length : Int) := by omega
            have hki2 : decide ((0 : Int) < (k' : Int) + 1) = true := decide_eq_true (by omega)
            have hw0 : IntKind.i64.wrap ((k' : Int) + 1 - 1) = (k' : Int) := by rw [Int.add_sub_cancel]; exact IntWalk.i64_in _ (by omega)
            have hw1 : IntKind.i64.wrap (k' : Int) = (k' : Int) := IntWalk.i64_in _ (by omega)
            rw [show ((k' + 1 : Nat) : Int) = (k' : Int) + 1 from rfl] at hki ⊢
            clear hq hp
            go_quiet (fail)
            go_wp2_with fail
            go_meet
            exact ⟨rfl, _, rfl⟩
        case rest =>
          obtain ⟨rfl, n0, rfl⟩ := hcut
          clear hp
          have HL0 := Lib.hid (show firstLang l x.el ord = (ord.drop 0).findSome? (fun s => factAt l x.el s) from rfl)
          go_wp2
          go_loopw [5, 7] (fun v5 v7 wz => v5 = u5 ∧ ∃ m : Nat, m ≤ ord.length ∧ v7 = .int .i64 m ∧ Hid (firstLang l x.el ord = (ord.drop m).findSome? (fun s => factAt l x.el s)) ∧ ∃ n, wz = wr.drewN n) (fun _ v7 _ => ord.length - (intOf v7).toNat)
          case atStart => exact ⟨rfl, 0, Nat.zero_le _, rfl, HL0, _, rfl⟩
          case round =>
            clear HL0
            obtain ⟨rfl, m, hm, rfl, HL, n1, rfl⟩ := hrel
            have hbN : Below w.heap.size w (wr.drewN n1) := hb.trans (below_of_drew _ ⟨_, rfl⟩)
            by_cases hlm : m < ord.length
            · obtain ⟨s, hs⟩ := get_at ord hlm
              have HDO := Lib.hid (drop_at hs)
              obtain ⟨bo, offo, rfl, hbo, o0⟩ := HO.out m s hs _ hb
              have hbow : bo < wr.heap.size := by have : bo < B := hbo; omega
              have hmi : (m : Int) < (ord.length : Int) := by omega
              have HF1 := Lib.hid (fun (W : World) (hW : W.heap = wr.heap) => HFI.out 0 W hW s)
              clear hs
              rcases factAt_idx l x.el s with ⟨e1, e2⟩ | ⟨n, f, e1, hf, e2⟩
              · rw [e1] at HF1
                have HLN := Lib.hid (show firstLang l x.el ord = (ord.drop (m + 1)).findSome? (fun s => factAt l x.el s) by rw [HL.out, HDO.out, List.findSome?_cons, e2])
                clear e1 e2
                go_wp2
                go_quiet ((go_at_call 82; refine (HF1.out _ (by simp)).mono ?_; rintro e w1 ⟨rfl, rfl⟩; exact ⟨rfl, _, rfl⟩))
                go_wp2
                go_roundw
                case rel => exact ⟨rfl, m + 1, by omega, by go_num, HLN, _, rfl⟩
                case measure => simp [intOf]; omega
              · rw [e1] at HF1
                have HLN := Lib.hid (show rchooseF l ord = (o ++ [f]) ++ rchooseG l ord (prevO l (k + 1)) (l.drop (k + 1)) by rw [HN.out, HL.out, HDO.out, List.findSome?_cons, e2, List.append_assoc]; rfl)
                obtain ⟨_, _, e9, -, q0, q1, q2⟩ := HX.out n f hf _ hb
                cases e9
                have hnl := lt_of_at hf
                have hni0 : decide ((0 : Int) ≤ (n : Int)) = true := decide_eq_true (by omega)
                have hni : (n : Int) < (l.length : Int) := by omega
                clear e1 e2 hf
                go_wp2
                go_quiet ((go_at_call 82; refine (HF1.out _ (by simp)).mono ?_; rintro e w1 ⟨rfl, rfl⟩; exact ⟨rfl, _, rfl⟩))
                have hdr : Below wr.heap.size wr ((wr.drewN n1).drewN nq) := below_of_drew _ ⟨_, World.drewN_drewN _ _ _⟩
                have hbZ := hb.trans (hdr.mono hbs)
                have hownZ := hown.below fctS hdr
                have q0z := (hdr.cell (p := ⟨b, off + n * 3, none⟩) hbw).trans q0
                have q1z := (hdr.cell (p := ⟨b, off + n * 3 + 1, none⟩) hbw).trans q1
                have q2z := (hdr.cell (p := ⟨b, off + n * 3 + 2, none⟩) hbw).trans q2
                have hbwz := Nat.lt_of_lt_of_le hbw hdr.size
                clear hdr q0 q1 q2 hown HF1 hbN
                generalize (wr.drewN n1).drewN nq = wz at *
                go_wp2_with (at_builtin; refine stop_intro ?_)
                refine stop_elim ?_
                have hA := hownZ.below fctS ((Below.refl wz.heap.size wz).alloc (Nat.le_refl _) (fctC f))
                refine wpList_append_rep rfl fctS fctE_ w.heap.size (.tmp 50) (.tmp 55) rfl rfl hA rfl (ys := [f]) (SlRep.one_new fctS (w := wz) (x := f) (F := fun _ => False) rfl rfl (fun _ h => h.elim)) ?F ?n (by decide) ?hbase ?_
                case F =>
                  intro b' hb'
                  rcases hb' with hb' | hb'
                  · exact hb'.elim
                  · subst hb'
                    exact ⟨by simp, fun e => by have := hownZ.own_lt _ e; omega⟩
                case n => rw [List.length_singleton]; omega
                case hbase => have := hbZ.size; simp; omega
                intro v6 w6 hown6 hg6 hat6
                have hb6 := (hbZ.alloc hbZ.size (fctC f)).grown hg6 (by have := hbZ.size; simp; omega) (fun k hk => (hownZ.own_lt k hk).1)
                go_wp2
                go_roundw
                case rel => exact ⟨k + 1, o ++ [f], by omega, by go_num, by rw [List.length_append, List.length_singleton]; omega, HLN, hown6, hb6⟩
                case measure => simp [intOf]; omega
            · have HLN := Lib.hid (show rchooseF l ord = o ++ rchooseG l ord (prevO l (k + 1)) (l.drop (k + 1)) by rw [HN.out, HL.out, List.drop_of_length_le (by omega)]; rfl)
              go_wp2
              go_roundw
              case rel => exact ⟨k + 1, o, by omega, by go_num, by omega, HLN, hown.below fctS (below_of_drew _ ⟨_, rfl⟩), hbN⟩
              case measure => simp [intOf]; omega
    · have HE := Lib.hid (show rchooseF l ord = o by rw [HS.out, List.drop_of_length_le (by omega)]; cases prevO l k <;> simp [rchooseG])
      go_wp2
      go_ret
      exact ⟨_, rfl, by rw [HE.out]; exact hown, hb⟩
set_option maxRecDepth 100000 in
set_option maxHeartbeats 8000000 in
theorem rChoose_c (c : Cat) (u : Int) (s : ByteArray) (v1 v2 v3 : Value) (w : World) (B : Nat) (hB : B ≤ w.heap.size) (h : CatRep w B c v1 v2 v3) (hl : c.sheets.length ≤ 1000) (hl2 : c.langs.length ≤ 1000) :
    Calls Tryz.prog 21 #[.agg #[v1, v2, v3], .int .i64 u, .string s] w fun e w' => ∃ v', e = .returned v' ∧ OwnRep 3 (flat Fact.enc) 49 w.heap.size w' (chooseR c u s) v' ∧ Below w.heap.size w w' := by
  have b1 : Below w.heap.size w (w.alloc (catC v1 v2 v3)) := (Below.refl _ _).alloc (Nat.le_refl _) _
  have hb0 : Below (w.heap.size + 1) (w.alloc (catC v1 v2 v3)) (w.alloc (catC v1 v2 v3)) := Below.refl _ _
  have KC := Lib.hid (fun (W : World) (hW : Below (w.heap.size + 1) (w.alloc (catC v1 v2 v3)) W) => cat_at3 hW)
  have HRI := Lib.hid (fun (W : World) (hW : Below w.heap.size w W) => rright_c c s v1 v2 v3 W B (Nat.le_trans hB hW.size) (h.below (hW.mono hB)) hl)
  have HIX := Lib.hid (fun (W : World) (hW : Below w.heap.size w W) => rindex_c c c.sheets.length u v1 v2 v3 W B (Nat.le_trans hB hW.size) (h.sheets.below shtS (hW.mono hB)) (Nat.le_refl _))
  rw [List.take_length] at HIX
  have HPR := Lib.hid (fun (W : World) (hW : Below w.heap.size w W) => rprefer_c c s v1 v2 v3 W B (Nat.le_trans hB hW.size) (h.langs.below strS (hW.mono hB)) hl2)
  obtain ⟨A1, ca1, rfl, -⟩ := id h.langs
  obtain ⟨A2, ca2, rfl, -⟩ := id h.labels
  obtain ⟨A3, ca3, rfl, hc1, hc2, _⟩ := id h.sheets
  cases hr : rightB c s
  · have HE := Lib.hid (show chooseR c u s = [] by unfold chooseR; rw [if_pos (.inl hr)])
    rw [hr] at HRI
    clear hr
    go_enter Tryz.func21, Tryz.ntmps21
    go_wp2_with fail
    refine (HRI.out _ b1).mono ?_
    rintro e w1 ⟨rfl, hb1⟩
    have hbX := bnd_call hb0 (by simp) hb1
    go_wp2
    go_ret
    exact ⟨_, rfl, by rw [HE.out]; exact OwnRep.nil_, b1.trans (hbX.mono (Nat.le_succ _))⟩
  · rcases idxF_cases (fun x : Sheet => decide (x.unit = u)) c.sheets with ⟨h1, -⟩ | ⟨k, x, h1, h2, -, -⟩
    · have hi : shtIx c.sheets u = -1 := h1
      have HE := Lib.hid (show chooseR c u s = [] by unfold chooseR; rw [hi, if_pos (.inr (by decide))])
      rw [hr] at HRI
      rw [hi] at HIX
      clear hr h1 hi
      go_enter Tryz.func21, Tryz.ntmps21
      go_wp2_with fail
      refine (HRI.out _ b1).mono ?_
      rintro e w1 ⟨rfl, hb1⟩
      have hbX := bnd_call hb0 (by simp) hb1
      obtain ⟨z0, z1, z2, zl⟩ := KC.out _ hbX
      have B1 := b1.trans (hbX.mono (Nat.le_succ _))
      go_wp2_with fail
      refine (HIX.out _ B1).mono ?_
      rintro e w2 ⟨rfl, hb2⟩
      go_wp2
      go_ret
      exact ⟨_, rfl, by rw [HE.out]; exact OwnRep.nil_, B1.trans (hb2.mono B1.size)⟩
    · have hi : shtIx c.sheets u = (k : Int) := h1
      have hkl := lt_of_at h2
      have hki1 : (k : Int) < (c.sheets.length : Int) := by omega
      have hki2 : decide ((k : Int) < 0) = false := by simp
      obtain ⟨hc0, hsl⟩ := rightB_iff hr
      have hz5 := ((catE_zero hc0).2.2.2 x (List.mem_of_getElem? h2)).2.2
      have hfl := fctE_len hz5
      have HE := Lib.hid (show chooseR c u s = rchooseF x.facts (prefF c.langs s) by
        unfold chooseR
        rw [if_neg (by rw [hi, hr]; simp), hi]
        simp [h2])
      have HX := Lib.hid (fun (W : World) (hW : Below w.heap.size w W) => Sheets.at_ (h.sheets.below shtS (hW.mono hB)) h2)
      rw [hr] at HRI
      rw [hi] at HIX
      clear hr h1 hi hsl hc0 h2 hz5
      go_enter Tryz.func21, Tryz.ntmps21
      go_wp2_with fail
      refine (HRI.out _ b1).mono ?_
      rintro e w1 ⟨rfl, hb1⟩
      have hbX := bnd_call hb0 (by simp) hb1
      obtain ⟨z0, z1, z2, zl⟩ := KC.out _ hbX
      have B1 := b1.trans (hbX.mono (Nat.le_succ _))
      go_wp2_with fail
      refine (HIX.out _ B1).mono ?_
      rintro e w2 ⟨rfl, hb2⟩
      have hbX := bnd_call hbX (by simp) hb2
      have B2 := b1.trans (hbX.mono (Nat.le_succ _))
      clear z0 z1 z2 zl
      obtain ⟨b, off, vf, e9, hbB, -, -, -, -, -, g5, hvf⟩ := HX.out _ B2
      subst e9
      obtain ⟨Af, cf, rfl, -⟩ := id hvf
      have hbw : b < w2.heap.size := by have : b < B := hbB; have := B2.size; omega
      have HCH := Lib.hid (fun (vp : Value) (W : World) (hW : Below w2.heap.size w2 W) (hp : Strs W W.heap.size (prefF c.langs s) vp) => rchoose_c x.facts (prefF c.langs s) (.slice Af x.facts.length cf) vp W W.heap.size (Nat.le_refl _) (((hvf.below fctS (hW.mono (Nat.le_trans hB B2.size))).mono fctS (Nat.le_trans hB (Nat.le_trans B2.size hW.size)))) hp (by omega))
      obtain ⟨z0, z1, z2, zl⟩ := KC.out _ hbX
      go_wp2
      have hbY : Below w2.heap.size w2 w2.drew := (Below.refl _ _).drew
      have KQ := Lib.hid (fun (W : World) (hW : Below w2.heap.size w2 W) => (⟨(hW.cell (p := ⟨w.heap.size, 0, none⟩) zl).trans z0, (hW.cell (p := ⟨w.heap.size, 1, none⟩) zl).trans z1, (hW.cell (p := ⟨w.heap.size, 2, none⟩) zl).trans z2, (hW.cell (p := ⟨b, off + k * 6 + 5, none⟩) hbw).trans g5, Nat.lt_of_lt_of_le zl hW.size, Nat.lt_of_lt_of_le hbw hW.size⟩ : W.cell? ⟨w.heap.size, 0, none⟩ = some (.slice A1 c.langs.length ca1) ∧ W.cell? ⟨w.heap.size, 1, none⟩ = some (.slice A2 c.labels.length ca2) ∧ W.cell? ⟨w.heap.size, 2, none⟩ = some (.slice (some ⟨b, off, none⟩) c.sheets.length ca3) ∧ W.cell? ⟨b, off + k * 6 + 5, none⟩ = some (.slice Af x.facts.length cf) ∧ w.heap.size < W.heap.size ∧ b < W.heap.size))
      clear z0 z1 z2 g5
      go_region_held3 (fun W => W.cell? ⟨w.heap.size, 0, none⟩ = some (.slice A1 c.langs.length ca1) ∧ W.cell? ⟨w.heap.size, 1, none⟩ = some (.slice A2 c.labels.length ca2) ∧ W.cell? ⟨w.heap.size, 2, none⟩ = some (.slice (some ⟨b, off, none⟩) c.sheets.length ca3) ∧ W.cell? ⟨b, off + k * 6 + 5, none⟩ = some (.slice Af x.facts.length cf) ∧ w.heap.size < W.heap.size ∧ b < W.heap.size) (with_reducible exact KQ.out _ hbY) (first
        | (go_at_call 51; (with_reducible refine (HPR.out _ (B2.trans (hbY.mono B2.size))).mono ?_); rintro e wP ⟨vp, rfl, hownP, hbP⟩; have hbY := bnd_call hbY (Nat.le_refl _) hbP; have hpp := hownP.toSl strS)
        | (go_at_call 55; (with_reducible refine (HCH.out _ _ hbY hpp).mono ?_); rintro e wQ ⟨vq, rfl, hownQ, hbQ⟩; have hbP2 := hbY.size; have hbY := bnd_call hbY (Nat.le_refl _) hbQ))
      go_wp2
      go_ret
      exact ⟨_, rfl, by rw [HE.out]; exact hownQ.base_le (Nat.le_trans B2.size hbP2), B2.trans (hbY.mono B2.size)⟩
open Go.RowKit

theorem labG_zeroR {ls : List ByteArray} : ∀ (r : List Label) (p : Option Label), labG ls p r = 0 → (∀ f ∈ r, hasS ls f.lang = true ∧ f.text.size ≤ 64) ∧ (∀ q ∈ p, ∀ f ∈ r, ascP Label.el Label.lang q f) ∧ r.Pairwise (ascP Label.el Label.lang)
  | [], p, _ => ⟨by simp, by simp, List.Pairwise.nil⟩
  | f :: r, p, h => by
    rw [labG] at h
    by_cases h0 : labF ls p f = 0
    · rw [if_pos h0] at h
      obtain ⟨i1, i2, i3⟩ := labG_zeroR r (some f) h
      unfold labF at h0
      by_cases c1 : f.el < 1 ∨ 64 < f.el ∨ f.idx < 0 ∨ 3 < f.idx
      · rw [if_pos c1] at h0; cases h0
      rw [if_neg c1] at h0
      by_cases c2 : hasS ls f.lang = false
      · rw [if_pos c2] at h0; cases h0
      rw [if_neg c2] at h0
      by_cases c3 : f.text.size < 1 ∨ 64 < f.text.size
      · rw [if_pos c3] at h0; cases h0
      rw [if_neg c3] at h0
      have hp : ∀ q ∈ p, ascP Label.el Label.lang q f := by
        intro q hq
        cases p with
        | none => cases hq
        | some q' =>
          cases hq
          unfold labT at h0
          simp only at h0
          by_cases c4 : bfB q.el q.lang f.el f.lang = false
          · rw [if_pos c4] at h0; cases h0
          · exact bfB_iff.1 (by simpa using c4)
      refine ⟨?_, ?_, ?_⟩
      · intro x hx
        rcases List.mem_cons.1 hx with rfl | hx
        · exact ⟨by simpa using c2, by omega⟩
        · exact i1 x hx
      · intro q hq x hx
        rcases List.mem_cons.1 hx with rfl | hx
        · exact hp q hq
        · exact ascP_trans (hp q hq) (i2 f rfl x hx)
      · exact List.pairwise_cons.2 ⟨fun x hx => i2 f rfl x hx, i3⟩
    · rw [if_neg h0] at h
      exact absurd h h0
/-- the label of an element, as the reference finds it -/
def rnameF (ord : List ByteArray) (l : List Label) (e : Nat) : ByteArray := ((firstG Label.el Label.lang l e ord).map Label.text).getD (elemS e)
theorem name_gen {ord : List ByteArray} {e : Nat} {l : List Label} (hp : l.Pairwise (ascP Label.el Label.lang)) (ho : ∀ x ∈ l, x.lang ∈ ord) : ∀ (r q : List Label) (t : ByteArray) (b : Int), l = q ++ r →
    (match firstG Label.el Label.lang q e ord with | none => t = elemS e ∧ b = ord.length | some g => t = g.text ∧ b = rankF ord g.lang) →
    nameP ord e t b r = rnameF ord l e
  | [], q, t, b, hl, hm => by
    rw [List.append_nil] at hl
    subst hl
    unfold nameP rnameF
    cases hf : firstG Label.el Label.lang l e ord with
    | none => rw [hf] at hm; exact hm.1
    | some g => rw [hf] at hm; exact hm.1
  | f :: r, q, t, b, hl, hm => by
    have hl2 : l = (q ++ [f]) ++ r := by rw [hl]; simp
    have hfm : f ∈ l := by rw [hl]; simp
    rw [nameP_cons]
    by_cases he : f.el = e
    · have hnew : ∀ g ∈ q, g.el = f.el → g.lang ≠ f.lang := by
        intro g hg hge
        have h1 := hp
        rw [hl] at h1
        exact ascP_ne ((List.pairwise_append.1 h1).2.2 g hg f (by simp)) hge
      have hs := firstG_snoc (el := Label.el) (lang := Label.lang) hnew ord (ho f hfm)
      rw [he] at hs
      cases hf : firstG Label.el Label.lang q e ord with
      | none =>
        rw [hf] at hm hs
        simp only at hm hs
        have hr : rankF ord f.lang < b := by rw [hm.2]; exact rank_lt
        rw [if_pos ⟨he, hr⟩]
        exact name_gen hp ho r (q ++ [f]) _ _ hl2 (by rw [hs]; exact ⟨rfl, rfl⟩)
      | some g =>
        rw [hf] at hm hs
        simp only at hm hs
        by_cases hr : rankF ord f.lang < rankF ord g.lang
        · rw [if_pos ⟨he, by rw [hm.2]; exact hr⟩]
          rw [if_pos hr] at hs
          exact name_gen hp ho r (q ++ [f]) _ _ hl2 (by rw [hs]; exact ⟨rfl, rfl⟩)
        · rw [if_neg (fun h => hr (by rw [← hm.2]; exact h.2))]
          rw [if_neg hr] at hs
          exact name_gen hp ho r (q ++ [f]) _ _ hl2 (by rw [hs]; exact hm)
    · rw [if_neg (fun h => he h.1)]
      exact name_gen hp ho r (q ++ [f]) _ _ hl2 (by rw [firstG_other (el := Label.el) (lang := Label.lang) he]; exact hm)
theorem name_eq {c : Cat} {s : ByteArray} {e : Nat} (h : catE c = 0) : nameF (prefF c.langs s) c.labels e = rnameF (prefF c.langs s) c.labels e := by
  obtain ⟨-, h2, -, -⟩ := catE_zero h
  unfold labE at h2
  by_cases h3 : 256 < c.labels.length
  · rw [if_pos h3] at h2; cases h2
  rw [if_neg h3] at h2
  obtain ⟨i1, -, i3⟩ := labG_zeroR _ _ h2
  unfold nameF
  refine name_gen i3 (fun x hx => pref_mem (hasS_iff.1 (i1 x hx).1)) c.labels [] _ _ rfl ?_
  have : firstG Label.el Label.lang [] (e : Int) (prefF c.langs s) = none := by
    unfold firstG
    rw [List.findSome?_eq_none_iff]
    intro x _
    rfl
  rw [this]
  exact ⟨rfl, rfl⟩
theorem firstG_cons {α : Type} (el : α → Int) (lang : α → ByteArray) (l : List α) (e : Int) (s : ByteArray) (r : List ByteArray) : firstG el lang l e (s :: r) = match atG el lang l e s with | some g => some g | none => firstG el lang l e r := rfl
def atD (l : List Label) (e : Int) (s : ByteArray) : Option Label := atG Label.el Label.lang l e s
theorem atD_cons (x : Label) (r : List Label) (e : Int) (s : ByteArray) : atD (x :: r) e s = if x.el = e ∧ x.lang = s then some x else atD r e s := by
  unfold atD atG
  by_cases h1 : x.el = e
  · by_cases h2 : x.lang = s
    · rw [if_pos ⟨h1, h2⟩, List.find?_cons_of_pos (by simp [h1, h2])]
    · rw [if_neg (fun h => h2 h.2), List.find?_cons_of_neg (by simp [h2])]
  · rw [if_neg (fun h => h1 h.1), List.find?_cons_of_neg (by simp [h1])]
set_option maxRecDepth 100000 in
set_option maxHeartbeats 8000000 in
theorem rname_c (c : Cat) (el : Nat) (s : ByteArray) (v1 v2 v3 : Value) (w : World) (B : Nat) (hB : B ≤ w.heap.size) (h : CatRep w B c v1 v2 v3) (hel : el < 100) (hl2 : c.langs.length ≤ 1000) :
    Calls Tryz.prog 57 #[.agg #[v1, v2, v3], .int .i64 el, .string s] w fun e w' => e = .returned (.string (rnameF (prefF c.langs s) c.labels el)) ∧ Below w.heap.size w w' := by
  have b1 : Below w.heap.size w (w.alloc (catC v1 v2 v3)) := (Below.refl _ _).alloc (Nat.le_refl _) _
  have hb0 : Below (w.heap.size + 1) (w.alloc (catC v1 v2 v3)) (w.alloc (catC v1 v2 v3)) := Below.refl _ _
  have KC := Lib.hid (fun (W : World) (hW : Below (w.heap.size + 1) (w.alloc (catC v1 v2 v3)) W) => cat_at3 hW)
  have HPR := Lib.hid (fun (W : World) (hW : Below w.heap.size w W) => rprefer_c c s v1 v2 v3 W B (Nat.le_trans hB hW.size) (h.langs.below strS (hW.mono hB)) hl2)
  obtain ⟨A1, ca1, rfl, -⟩ := id h.langs
  obtain ⟨A2, ca2, rfl, hc1, hc2, _⟩ := id h.labels
  have HX := Lib.hid (fun (i : Nat) (x : Label) (hx : c.labels[i]? = some x) (W : World) (hW : Below w.heap.size w W) => Labels.at_ (h.labels.below labS (hW.mono hB)) hx)
  obtain ⟨ord, hord⟩ : ∃ o, prefF c.langs s = o := ⟨_, rfl⟩
  rw [hord] at HPR ⊢
  clear hord
  have HIT := Lib.hid (fun (W : World) => Tryz.strconv_Itoa_small el hel W)
  have hds := digits_le hel
  have HEL := Lib.hid (show elemS el = ⟨#[101, 108, 101, 109, 101, 110, 116, 32]⟩ ++ ⟨(Lib.decDigits el).toArray⟩ from rfl)
  generalize (⟨(Lib.decDigits el).toArray⟩ : ByteArray) = dg at *
  have hq0 : ¬ 9223372036854775807 < 8 + dg.size := by omega
  go_enter Tryz.func57, Tryz.ntmps57
  go_wp2_with fail
  refine (HPR.out _ b1).mono ?_
  rintro e wP ⟨vp, rfl, hownP, hbP⟩
  have hbX := bnd_call hb0 (by simp) hbP
  have hpp := hownP.toSl strS
  have B1 := b1.trans (hbX.mono (Nat.le_succ _))
  obtain ⟨Ap, cp, rfl, hd1, hd2, _⟩ := id hpp
  have HPX := Lib.hid (fun (i : Nat) (x : ByteArray) (hx : ord[i]? = some x) => Strs.at_ hpp hx)
  clear hpp hownP HPR
  obtain ⟨z0, z1, z2, zl⟩ := KC.out _ hbX
  have HE := Lib.hid (show rnameF ord c.labels el = ((firstG Label.el Label.lang c.labels el (ord.drop 0)).map Label.text).getD (elemS el) from rfl)
  go_wp2
  go_loopw [8] (fun v8 wr => ∃ k : Nat, k ≤ ord.length ∧ v8 = .int .i64 k ∧ Hid (rnameF ord c.labels el = ((firstG Label.el Label.lang c.labels el (ord.drop k)).map Label.text).getD (elemS el)) ∧ ∃ n, wr = wP.drewN n) (fun v8 _ => ord.length - (intOf v8).toNat)
  case atStart => exact ⟨0, Nat.zero_le _, rfl, HE, 0, rfl⟩
  case round =>
    clear HE
    obtain ⟨k, hk, rfl, HS, n0, rfl⟩ := hrel
    have hbN : Below w.heap.size w (wP.drewN n0) := B1.trans (below_of_drew _ ⟨_, rfl⟩)
    by_cases hlt : k < ord.length
    · obtain ⟨t, ht⟩ := get_at ord hlt
      have HD := Lib.hid (drop_at ht)
      obtain ⟨bp, offp, rfl, hbp, p0⟩ := HPX.out k t ht
      have hbpw : bp < wP.heap.size := hbp
      have hki : (k : Int) < (ord.length : Int) := by omega
      have HA0 := Lib.hid (show atD c.labels el t = atD (c.labels.drop 0) el t from rfl)
      clear ht
      go_wp2
      go_loopw [9] (fun v9 wr => ∃ i : Nat, i ≤ c.labels.length ∧ v9 = .int .i64 i ∧ Hid (atD c.labels el t = atD (c.labels.drop i) el t) ∧ ∃ n, wr = wP.drewN n) (fun v9 _ => c.labels.length - (intOf v9).toNat)
      case atStart => exact ⟨0, Nat.zero_le _, rfl, HA0, _, rfl⟩
      case round =>
        clear HA0
        obtain ⟨i, hi, rfl, HA, n1, rfl⟩ := hrel
        have hbM : Below w.heap.size w (wP.drewN n1) := B1.trans (below_of_drew _ ⟨_, rfl⟩)
        by_cases hli : i < c.labels.length
        · obtain ⟨x, hx⟩ := get_at c.labels hli
          have HDX := Lib.hid (drop_at hx)
          obtain ⟨b, off, e9, hbB, g0, g1, g2, -⟩ := HX.out i x hx _ B1
          subst e9
          have hbw : b < wP.heap.size := by have : b < B := hbB; have := B1.size; omega
          have hii : (i : Int) < (c.labels.length : Int) := by omega
          clear hx
          by_cases h1 : x.el = el
          · have e1 : (x.el == (el : Int)) = true := by simp [h1]
            by_cases h2 : x.lang = t
            · have e2 : x.lang.toList = t.toList := by rw [h2]
              have e3 : (x.lang.toList == t.toList) = true := by simp [e2]
              have HR := Lib.hid (show rnameF ord c.labels el = x.text by
                have h3 : atG Label.el Label.lang c.labels el t = some x := by
                  show atD c.labels el t = some x
                  rw [HA.out, HDX.out, atD_cons, if_pos ⟨h1, h2⟩]
                rw [HS.out, HD.out, firstG_cons, h3]
                rfl)
              clear h1 h2
              go_wp2
              go_quiet (fail)
              go_wp2
              go_ret
              exact ⟨ret_val (congrArg Value.string HR.out.symm), B1.trans (below_of_drew _ ⟨_, rfl⟩)⟩
            · have e2 : ¬ x.lang.toList = t.toList := by rw [str_iff]; exact h2
              have e3 : (x.lang.toList == t.toList) = false := by simp [e2]
              have HN := Lib.hid (show atD c.labels el t = atD (c.labels.drop (i + 1)) el t by rw [HA.out, HDX.out, atD_cons, if_neg (fun h => h2 h.2)])
              clear h1 h2
              go_wp2
              go_quiet (fail)
              go_wp2
              go_roundw
              case rel => exact ⟨i + 1, by omega, by go_num, HN, _, rfl⟩
              case measure => simp [intOf]; omega
          · have e1 : (x.el == (el : Int)) = false := by simp [h1]
            have HN := Lib.hid (show atD c.labels el t = atD (c.labels.drop (i + 1)) el t by rw [HA.out, HDX.out, atD_cons, if_neg (fun h => h1 h.1)])
            clear h1
            go_wp2
            go_quiet (fail)
            go_wp2
            go_roundw
            case rel => exact ⟨i + 1, by omega, by go_num, HN, _, rfl⟩
            case measure => simp [intOf]; omega
        · have HN := Lib.hid (show rnameF ord c.labels el = ((firstG Label.el Label.lang c.labels el (ord.drop (k + 1))).map Label.text).getD (elemS el) by
            have h3 : atG Label.el Label.lang c.labels el t = none := by
              show atD c.labels el t = none
              rw [HA.out, List.drop_of_length_le (by omega)]
              rfl
            rw [HS.out, HD.out, firstG_cons, h3])
          go_wp2
          go_roundw
          case rel => exact ⟨k + 1, by omega, by go_num, HN, _, rfl⟩
          case measure => simp [intOf]; omega
    · have HR := Lib.hid (show rnameF ord c.labels el = ⟨#[101, 108, 101, 109, 101, 110, 116, 32]⟩ ++ dg by rw [HS.out, List.drop_of_length_le (by omega), ← HEL.out]; rfl)
      go_wp2_with fail
      refine (HIT.out _).mono ?_
      rintro e w1 ⟨rfl, rfl⟩
      go_wp2
      go_ret
      exact ⟨ret_val (congrArg Value.string HR.out.symm), hbN⟩
set_option maxRecDepth 100000 in
set_option maxHeartbeats 4000000 in
theorem rName_c (c : Cat) (el : Int) (s : ByteArray) (v1 v2 v3 : Value) (w : World) (B : Nat) (hB : B ≤ w.heap.size) (h : CatRep w B c v1 v2 v3) (hl : c.sheets.length ≤ 1000) (hl2 : c.langs.length ≤ 1000) :
    Calls Tryz.prog 23 #[.agg #[v1, v2, v3], .int .i64 el, .string s] w fun e w' => e = .returned (.string (nameR c el s)) ∧ Below w.heap.size w w' := by
  have b1 : Below w.heap.size w (w.alloc (catC v1 v2 v3)) := (Below.refl _ _).alloc (Nat.le_refl _) _
  have hb0 : Below (w.heap.size + 1) (w.alloc (catC v1 v2 v3)) (w.alloc (catC v1 v2 v3)) := Below.refl _ _
  have KC := Lib.hid (fun (W : World) (hW : Below (w.heap.size + 1) (w.alloc (catC v1 v2 v3)) W) => cat_at3 hW)
  have HRI := Lib.hid (fun (W : World) (hW : Below w.heap.size w W) => rright_c c s v1 v2 v3 W B (Nat.le_trans hB hW.size) (h.below (hW.mono hB)) hl)
  cases hr : rightB c s
  · have HE := Lib.hid (show nameR c el s = ⟨#[]⟩ by unfold nameR; rw [if_pos (.inr (.inr hr))])
    rw [hr] at HRI
    clear hr
    go_enter Tryz.func23, Tryz.ntmps23
    go_wp2_with fail
    refine (HRI.out _ b1).mono ?_
    rintro e w1 ⟨rfl, hb1⟩
    have hbX := bnd_call hb0 (by simp) hb1
    go_wp2
    go_ret
    exact ⟨ret_val (congrArg Value.string HE.out.symm), b1.trans (hbX.mono (Nat.le_succ _))⟩
  · by_cases h1 : el < 1
    · have d1 : decide (el < 1) = true := decide_eq_true h1
      have HE := Lib.hid (show nameR c el s = ⟨#[]⟩ by unfold nameR; rw [if_pos (.inl h1)])
      rw [hr] at HRI
      clear hr h1
      go_enter Tryz.func23, Tryz.ntmps23
      go_wp2_with fail
      refine (HRI.out _ b1).mono ?_
      rintro e w1 ⟨rfl, hb1⟩
      have hbX := bnd_call hb0 (by simp) hb1
      go_wp2
      go_ret
      exact ⟨ret_val (congrArg Value.string HE.out.symm), b1.trans (hbX.mono (Nat.le_succ _))⟩
    · have d1 : decide (el < 1) = false := decide_eq_false h1
      by_cases h2 : 64 < el
      · have d2 : decide ((64 : Int) < el) = true := decide_eq_true h2
        have HE := Lib.hid (show nameR c el s = ⟨#[]⟩ by unfold nameR; rw [if_pos (.inr (.inl h2))])
        rw [hr] at HRI
        clear hr h1 h2
        go_enter Tryz.func23, Tryz.ntmps23
        go_wp2_with fail
        refine (HRI.out _ b1).mono ?_
        rintro e w1 ⟨rfl, hb1⟩
        have hbX := bnd_call hb0 (by simp) hb1
        go_wp2
        go_ret
        exact ⟨ret_val (congrArg Value.string HE.out.symm), b1.trans (hbX.mono (Nat.le_succ _))⟩
      · have d2 : decide ((64 : Int) < el) = false := decide_eq_false h2
        obtain ⟨e, rfl⟩ : ∃ e : Nat, el = e := ⟨el.toNat, by omega⟩
        have HNM := Lib.hid (fun (W : World) (hW : Below w.heap.size w W) => rname_c c e s v1 v2 v3 W B (Nat.le_trans hB hW.size) (h.below (hW.mono hB)) (by omega) hl2)
        have HE := Lib.hid (show nameR c e s = rnameF (prefF c.langs s) c.labels e by
          unfold nameR
          rw [if_neg (by rw [hr]; simp; omega), Int.toNat_natCast, name_eq (rightB_iff hr).1])
        rw [hr] at HRI
        clear hr h1 h2
        go_enter Tryz.func23, Tryz.ntmps23
        go_wp2_with fail
        refine (HRI.out _ b1).mono ?_
        rintro e w1 ⟨rfl, hb1⟩
        have hbX := bnd_call hb0 (by simp) hb1
        obtain ⟨z0, z1, z2, zl⟩ := KC.out _ hbX
        have B1 := b1.trans (hbX.mono (Nat.le_succ _))
        go_wp2_with fail
        refine (HNM.out _ B1).mono ?_
        rintro e w2 ⟨rfl, hb2⟩
        go_wp2
        go_ret
        exact ⟨ret_val (congrArg Value.string HE.out.symm), B1.trans (hb2.mono B1.size)⟩
open Go.RowKit

theorem extract_list {t : ByteArray} (j : Nat) : (t.extract j t.size).data.toList = t.data.toList.drop j := by
  rw [ByteArray.data_extract, Array.toList_extract]
  have e : t.size = t.data.toList.length := by simp
  rw [e]
  show (t.data.toList.drop j).take (t.data.toList.length - j) = _
  exact List.take_of_length_le (by simp)
theorem extract_headG {t : ByteArray} (j : Nat) : (t.extract j t.size).data.toList.getD 0 0 = t.data.toList.getD j 0 := by
  rw [extract_list]
  simp [List.getD, List.getElem?_drop]
theorem extract_two {t : ByteArray} {i n : Nat} : (t.extract i t.size).extract n (t.extract i t.size).size = t.extract (i + n) t.size := by
  apply ByteArray.ext
  apply Array.ext'
  rw [extract_list, extract_list, extract_list, List.drop_drop]
theorem extract_one {t : ByteArray} {i : Nat} (h : i < t.size) : ((t.extract i t.size).extract 0 1).data.toList = [t.data.toList.getD i 0] := by
  have h1 : ((t.extract i t.size).extract 0 1).data.toList = ((t.extract i t.size).data.toList.drop 0).take (1 - 0) := by
    rw [ByteArray.data_extract, Array.toList_extract]
  have h2 : t.data.toList[i]? = some (t.data.toList.getD i 0) := by
    rw [List.getD, List.getElem?_eq_getElem (by simpa using h)]
    rfl
  rw [h1, extract_list, List.drop_zero, drop_at h2]
  rfl
/-- a text that is expanded, or nothing -/
def expandR (c : Cat) (t : ByteArray) : ByteArray := if catE c = 0 then ⟨(expF (fun u => citeF c.sheets u) t).toArray⟩ else ⟨#[]⟩
def strLen : Value → Nat
  | .string s => s.size
  | _ => 0
set_option maxRecDepth 100000 in
set_option maxHeartbeats 4000000 in
theorem rexpand_c (c : Cat) (t : ByteArray) (v1 v2 v3 : Value) (w : World) (B : Nat) (hB : B ≤ w.heap.size) (h : CatRep w B c v1 v2 v3) (h0 : catE c = 0) (ht : t.size ≤ 4096) :
    Calls Tryz.prog 62 #[.agg #[v1, v2, v3], .string t] w fun e w' => e = .returned (.string ⟨(expF (fun u => citeF c.sheets u) t).toArray⟩) ∧ Below w.heap.size w w' := by
  have b1 : Below w.heap.size w (w.alloc (catC v1 v2 v3)) := (Below.refl _ _).alloc (Nat.le_refl _) _
  have hb0 : Below (w.heap.size + 1) (w.alloc (catC v1 v2 v3)) (w.alloc (catC v1 v2 v3)) := Below.refl _ _
  have KC := Lib.hid (fun (W : World) (hW : Below (w.heap.size + 1) (w.alloc (catC v1 v2 v3)) W) => cat_at3 hW)
  have HCI := Lib.hid (fun (u : Int) (W : World) (hW : Below w.heap.size w W) => rcite_c c u v1 v2 v3 W B (Nat.le_trans hB hW.size) (h.below (hW.mono hB)) (fun s hs => ⟨((catE_zero h0).2.2.2 s hs).2.1.1, ((catE_zero h0).2.2.2 s hs).2.1.2.2⟩))
  have HCS := Lib.hid (citeF_size h0)
  have HT0 := Lib.hid (show t.extract 0 t.size = t by apply ByteArray.ext; apply Array.ext'; rw [extract_list]; rfl)
  have HE := Lib.hid (show expF (fun u => citeF c.sheets u) t = (⟨#[]⟩ : ByteArray).data.toList ++ expG (fun u => citeF c.sheets u) t t.size 0 from rfl)
  clear h h0
  go_enter Tryz.func62, Tryz.ntmps62
  go_wp2
  go_loopw [1, 5] (fun vs vo wr => ∃ (i g : Nat) (out : ByteArray), i ≤ t.size ∧ t.size ≤ i + g ∧ vs = .string (t.extract i t.size) ∧ vo = .string out ∧ out.size ≤ 200 * i ∧ Hid (expF (fun u => citeF c.sheets u) t = out.data.toList ++ expG (fun u => citeF c.sheets u) t g i) ∧ Below (w.heap.size + 1) (w.alloc (catC v1 v2 v3)) wr) (fun vs _ _ => strLen vs)
  case atStart => exact ⟨0, t.size, ⟨#[]⟩, Nat.zero_le _, by omega, by rw [HT0.out], rfl, Nat.zero_le _, HE, hb0⟩
  case round =>
    clear HE HT0
    obtain ⟨i, g, out, hi, hg, rfl, rfl, ho, HS, hbX⟩ := hrel
    obtain ⟨z0, z1, z2, zl⟩ := KC.out _ hbX
    have Br := b1.trans (hbX.mono (Nat.le_succ _))
    have hsz : (t.extract i t.size).size = t.size - i := by rw [ByteArray.size_extract]; omega
    by_cases hlt : i < t.size
    · obtain ⟨g', rfl⟩ : ∃ g', g = g' + 1 := ⟨g - 1, by omega⟩
      have HN := Lib.hid (show expG (fun u => citeF c.sheets u) t (g' + 1) i = if t.data.toList.getD i 0 = 91 ∧ 0 < (unitF (t.extract i t.size)).2 then (citeF c.sheets (unitF (t.extract i t.size)).1).data.toList ++ expG (fun u => citeF c.sheets u) t g' (i + (unitF (t.extract i t.size)).2) else t.data.toList.getD i 0 :: expG (fun u => citeF c.sheets u) t g' (i + 1) by rw [expG, if_pos hlt])
      have hs1 : (t.extract i t.size).toList.isEmpty = false := by rw [str_empty, hsz]; exact decide_eq_false (by omega)
      have hs2 : ((t.extract i t.size).toList == ([] : List UInt8)) = false := by simpa using hs1
      have HPC := Lib.hid (rpiece_c (t.extract i t.size) (by rw [hsz]; omega) wr)
      have HUL := Lib.hid (unitF_le (t.extract i t.size))
      have HPE := Lib.hid (show t.data.toList.getD i 0 = 91 → pieceF (t.extract i t.size) = unitF (t.extract i t.size) from fun e => piece_eq (by rw [extract_headG]; exact e))
      have HPZ := Lib.hid (show t.data.toList.getD i 0 ≠ 91 → pieceF (t.extract i t.size) = (0, 0) from fun e => piece_zero (by rw [extract_headG]; exact e))
      obtain ⟨p, hp⟩ : ∃ p : Nat × Nat, p = pieceF (t.extract i t.size) := ⟨_, rfl⟩
      rw [← hp] at HPC HPE HPZ
      have HX1 := Lib.hid (extract_one hlt)
      have HX2 := Lib.hid (extract_two (t := t) (i := i) (n := 1))
      by_cases hp0 : p.2 = 0
      · have e0 : ((p.2 : Int) == 0) = true := by rw [hp0]; rfl
        have HM := Lib.hid (show expF (fun u => citeF c.sheets u) t = (out ++ (t.extract i t.size).extract 0 1).data.toList ++ expG (fun u => citeF c.sheets u) t g' (i + 1) by
          rw [HS.out, HN.out, if_neg (by
            rintro ⟨h1, h2⟩
            rw [← HPE.out h1] at h2
            omega)]
          rw [show (out ++ (t.extract i t.size).extract 0 1).data.toList = out.data.toList ++ ((t.extract i t.size).extract 0 1).data.toList by simp, HX1.out, List.append_assoc]
          rfl)
        have hq1 : (1 : Int) ≤ ((t.extract i t.size).size : Int) := by rw [hsz]; omega
        have hx1s : ((t.extract i t.size).extract 0 1).size = 1 := by rw [ByteArray.size_extract, hsz]; omega
        have hq2 : ¬ 9223372036854775807 < out.size + ((t.extract i t.size).extract 0 1).size := by rw [hx1s]; omega
        have hq3 : (out ++ (t.extract i t.size).extract 0 1).size ≤ 200 * (i + 1) := by rw [ByteArray.size_append, hx1s]; omega
        have hme : strLen (.string (t.extract (i + 1) t.size)) < strLen (.string (t.extract i t.size)) := by show (t.extract (i + 1) t.size).size < (t.extract i t.size).size; rw [hsz, ByteArray.size_extract]; omega
        have hx2 : (t.extract i t.size).extract 1 (t.size - i) = t.extract (i + 1) t.size := by have := HX2.out; rwa [hsz] at this
        have HX2' := Lib.hid hx2
        clear hp HN HS hsz hp0 hx1s hx2
        go_wp2_with fail
        refine HPC.out.mono ?_
        rintro e w1 ⟨rfl, rfl⟩
        go_wp2
        go_roundw
        case rel => exact ⟨i + 1, g', _, by omega, by omega, by rw [HX2'.out], rfl, hq3, HM, hbX⟩
        case measure => rw [HX2'.out]; exact hme
      · have e0 : ((p.2 : Int) == 0) = false := by rw [beq_eq_false_iff_ne]; omega
        have h91 : t.data.toList.getD i 0 = 91 := Classical.byContradiction fun e => hp0 (by rw [HPZ.out e])
        have hpu := HPE.out h91
        have hul := HUL.out
        rw [← hpu] at hul
        rw [hsz] at hul
        have HM := Lib.hid (show expF (fun u => citeF c.sheets u) t = (out ++ citeF c.sheets p.1).data.toList ++ expG (fun u => citeF c.sheets u) t g' (i + p.2) by
          rw [HS.out, HN.out, ← hpu, if_pos ⟨h91, by omega⟩]
          rw [show (out ++ citeF c.sheets p.1).data.toList = out.data.toList ++ (citeF c.sheets p.1).data.toList by simp, List.append_assoc])
        have hcs := HCS.out p.1
        have hq1 : (p.2 : Int) ≤ ((t.extract i t.size).size : Int) := by rw [hsz]; omega
        have hq1b : (p.2 : Int) ≤ ((t.size - i : Nat) : Int) := by omega
        have hq2 : ¬ 9223372036854775807 < out.size + (citeF c.sheets p.1).size := by omega
        have hq3 : (out ++ citeF c.sheets p.1).size ≤ 200 * (i + p.2) := by rw [ByteArray.size_append]; omega
        have hme : strLen (.string (t.extract (i + p.2) t.size)) < strLen (.string (t.extract i t.size)) := by show (t.extract (i + p.2) t.size).size < (t.extract i t.size).size; rw [hsz, ByteArray.size_extract]; omega
        have hx2 : (t.extract i t.size).extract p.2 (t.size - i) = t.extract (i + p.2) t.size := by have := extract_two (t := t) (i := i) (n := p.2); rwa [hsz] at this
        have HX2' := Lib.hid hx2
        have hle : i + p.2 ≤ t.size := by omega
        have hle2 : t.size ≤ i + p.2 + g' := by omega
        clear hp HN HS hsz hp0 hpu hul h91 hcs hx2
        go_wp2_with fail
        refine HPC.out.mono ?_
        rintro e w1 ⟨rfl, rfl⟩
        go_wp2_with fail
        refine (HCI.out p.1 _ Br).mono ?_
        rintro e w2 ⟨rfl, hb2⟩
        go_wp2
        go_roundw
        case rel => exact ⟨i + p.2, g', _, hle, hle2, by rw [HX2'.out], rfl, hq3, HM, bnd_call hbX (by simp) hb2⟩
        case measure => rw [HX2'.out]; exact hme
    · have hs1 : (t.extract i t.size).toList.isEmpty = true := by rw [str_empty, hsz]; exact decide_eq_true (by omega)
      have hs2 : ((t.extract i t.size).toList == ([] : List UInt8)) = true := by simpa using hs1
      have HM := Lib.hid (show (⟨(expF (fun u => citeF c.sheets u) t).toArray⟩ : ByteArray) = out by
        rw [HS.out, expG_end _ _ (by omega), List.append_nil])
      clear hsz HS
      go_wp2
      go_ret
      exact ⟨ret_val (congrArg Value.string HM.out.symm), Br⟩
set_option maxRecDepth 100000 in
set_option maxHeartbeats 4000000 in
theorem rExpand_c (c : Cat) (t : ByteArray) (v1 v2 v3 : Value) (w : World) (B : Nat) (hB : B ≤ w.heap.size) (h : CatRep w B c v1 v2 v3) (hl : c.sheets.length ≤ 1000) (ht : t.size ≤ 4096) :
    Calls Tryz.prog 27 #[.agg #[v1, v2, v3], .string t] w fun e w' => e = .returned (.string (expandR c t)) ∧ Below w.heap.size w w' := by
  have b1 : Below w.heap.size w (w.alloc (catC v1 v2 v3)) := (Below.refl _ _).alloc (Nat.le_refl _) _
  have hb0 : Below (w.heap.size + 1) (w.alloc (catC v1 v2 v3)) (w.alloc (catC v1 v2 v3)) := Below.refl _ _
  have KC := Lib.hid (fun (W : World) (hW : Below (w.heap.size + 1) (w.alloc (catC v1 v2 v3)) W) => cat_at3 hW)
  have HCK := Lib.hid (fun (W : World) (hW : Below w.heap.size w W) => rcheck47_c c v1 v2 v3 W B (Nat.le_trans hB hW.size) (h.below (hW.mono hB)) hl)
  by_cases h1 : catE c = 0
  · have HEX := Lib.hid (fun (W : World) (hW : Below w.heap.size w W) => rexpand_c c t v1 v2 v3 W B (Nat.le_trans hB hW.size) (h.below (hW.mono hB)) h1 ht)
    have HE := Lib.hid (show expandR c t = ⟨(expF (fun u => citeF c.sheets u) t).toArray⟩ by unfold expandR; rw [if_pos h1])
    rw [h1] at HCK
    clear h1
    go_enter Tryz.func27, Tryz.ntmps27
    go_wp2_with fail
    refine (HCK.out _ b1).mono ?_
    rintro e w1 ⟨rfl, hb1⟩
    have hbX := bnd_call hb0 (by simp) hb1
    obtain ⟨z0, z1, z2, zl⟩ := KC.out _ hbX
    have B1 := b1.trans (hbX.mono (Nat.le_succ _))
    go_wp2_with fail
    refine (HEX.out _ B1).mono ?_
    rintro e w2 ⟨rfl, hb2⟩
    go_wp2
    go_ret
    exact ⟨ret_val (congrArg Value.string HE.out.symm), B1.trans (hb2.mono B1.size)⟩
  · have HE := Lib.hid (show expandR c t = ⟨#[]⟩ by unfold expandR; rw [if_neg h1])
    obtain ⟨n1, n2⟩ := ne_boolR h1
    clear h1
    go_enter Tryz.func27, Tryz.ntmps27
    go_wp2_with fail
    refine (HCK.out _ b1).mono ?_
    rintro e w1 ⟨rfl, hb1⟩
    have hbX := bnd_call hb0 (by simp) hb1
    go_wp2
    go_ret
    exact ⟨ret_val (congrArg Value.string HE.out.symm), b1.trans (hbX.mono (Nat.le_succ _))⟩
set_option maxRecDepth 100000 in
set_option maxHeartbeats 4000000 in
theorem Expand_c (c : Cat) (t : ByteArray) (v1 v2 v3 : Value) (w : World) (B : Nat) (hB : B ≤ w.heap.size) (h : CatRep w B c v1 v2 v3) (ht : t.size ≤ 4096) (hS : SynOk w) :
    Calls Tryz.prog 26 #[.agg #[v1, v2, v3], .string t] w fun e w' => e = .returned (.string (expandR c t)) ∧ Below w.heap.size w w' := by
  have b1 : Below w.heap.size w (w.alloc (catC v1 v2 v3)) := (Below.refl _ _).alloc (Nat.le_refl _) _
  have hb0 : Below (w.heap.size + 1) (w.alloc (catC v1 v2 v3)) (w.alloc (catC v1 v2 v3)) := Below.refl _ _
  have KC := Lib.hid (fun (W : World) (hW : Below (w.heap.size + 1) (w.alloc (catC v1 v2 v3)) W) => cat_at3 hW)
  have HCK := Lib.hid (fun (W : World) (hW : Below w.heap.size w W) => Check_c c v1 v2 v3 W B (Nat.le_trans hB hW.size) (h.below (hW.mono hB)))
  by_cases h1 : catE c = 0
  · have HEX := Lib.hid (fun (W : World) (hW : Below (w.heap.size + 1) (w.alloc (catC v1 v2 v3)) W) => (by
      have b2 := b1.trans (hW.mono (Nat.le_succ _))
      refine expand_cX (fun u => citeF c.sheets u) (.pointer (some ⟨w.heap.size, 0, none⟩)) t W ht (hS.below hS.1 b2) (fun u => citeF_size h1 u) (fun u W' hW' => ?_)
      have hW2 := hW.trans (hW'.mono (by have := hW.size; simp at this; omega))
      obtain ⟨z0, z1, z2, zl⟩ := KC.out _ hW2
      have b3 := b1.trans (hW2.mono (Nat.le_succ _))
      exact cites_cX c u w.heap.size v1 v2 v3 W' B (Nat.le_trans hB b3.size) (h.sheets.below shtS (b3.mono hB)) h1 z0 z1 z2 : Calls Tryz.prog 60 #[.string t, .func (.func 61) #[] #[.pointer (some ⟨w.heap.size, 0, none⟩)]] W fun e w' => e = .returned (.string ⟨(expF (fun u => citeF c.sheets u) t).toArray⟩) ∧ Below W.heap.size W w'))
    have HE := Lib.hid (show expandR c t = ⟨(expF (fun u => citeF c.sheets u) t).toArray⟩ by unfold expandR; rw [if_pos h1])
    rw [h1] at HCK
    clear h1
    go_enter Tryz.func26, Tryz.ntmps26
    go_wp2_with fail
    refine (HCK.out _ b1).mono ?_
    rintro e w1 ⟨rfl, hb1⟩
    have hbX := bnd_call hb0 (by simp) hb1
    have B1 := b1.trans (hbX.mono (Nat.le_succ _))
    go_wp2_with fail
    refine (HEX.out _ hbX).mono ?_
    rintro e w2 ⟨rfl, hb2⟩
    go_wp2
    go_ret
    exact ⟨ret_val (congrArg Value.string HE.out.symm), B1.trans (hb2.mono B1.size)⟩
  · have HE := Lib.hid (show expandR c t = ⟨#[]⟩ by unfold expandR; rw [if_neg h1])
    obtain ⟨n1, n2⟩ := ne_boolR h1
    clear h1
    go_enter Tryz.func26, Tryz.ntmps26
    go_wp2_with fail
    refine (HCK.out _ b1).mono ?_
    rintro e w1 ⟨rfl, hb1⟩
    have hbX := bnd_call hb0 (by simp) hb1
    go_wp2
    go_ret
    exact ⟨ret_val (congrArg Value.string HE.out.symm), b1.trans (hbX.mono (Nat.le_succ _))⟩
open Go.RowKit

theorem num_is {c : Cat} {root : Int} {i : Nat} {y : Sheet} (hy : c.sheets[i]? = some y) (h0 : catE c = 0) (hr : root ∈ chainF c.sheets i) : numU c root y.unit = rnumF c.sheets root i := by
  have T := Cat.tree h0
  unfold numU
  rw [if_pos h0]
  have hm : (y, rnumF c.sheets root i) ∈ secnF c.sheets root := by
    rw [secnF_eq T]
    have gen : ∀ (r : List Sheet) (a : Nat), c.sheets.drop a = r → a ≤ i → (y, rnumF c.sheets root i) ∈ rnumL c.sheets root a r := by
      intro r
      induction r with
      | nil =>
        intro a hd ha
        have hl : c.sheets.length ≤ a := by simpa using hd
        have := lt_of_at hy
        omega
      | cons s r ih =>
        intro a hd ha
        have hs : c.sheets[a]? = some s := by
          have := congrArg (fun x => x[0]?) hd
          simpa using this
        have hd' : c.sheets.drop (a + 1) = r := by
          have := drop_at hs
          rw [hd] at this
          injection this with _ e
          exact e.symm
        rw [rnumL]
        rcases Nat.eq_or_lt_of_le ha with e | hlt
        · subst e
          rw [hy] at hs
          injection hs with hs
          subst hs
          rw [if_pos (inB_iff.2 hr)]
          simp
        · have := ih (a + 1) hd' hlt
          split
          · exact List.mem_cons_of_mem _ this
          · exact this
    exact gen c.sheets 0 (by simp) (Nat.zero_le _)
  exact lastU_at (t := ⟨#[]⟩) ((once_diff T (root := root)).imp fun h => h.1) hm
set_option maxRecDepth 100000 in
set_option maxHeartbeats 8000000 in
theorem rnumber_c (c : Cat) (T : Tree c.sheets) (h14 : c.sheets.length ≤ 14) (root : Int) : ∀ (n i : Nat), i < n → ∀ (s : Sheet), c.sheets[i]? = some s → root ∈ chainF c.sheets i → ∀ (v1 v2 v3 : Value) (w : World) (B : Nat), B ≤ w.heap.size → CatRep w B c v1 v2 v3 →
    Calls Tryz.prog 53 #[.agg #[v1, v2, v3], .int .i64 root, .int .i64 i] w fun e w' => e = .returned (.string (rnumF c.sheets root i)) ∧ Below w.heap.size w w'
  | 0, _, hin, _, _, _ => by omega
  | n + 1, i, hin, s, hs, hr => by
    intro v1 v2 v3 w B hB h
    have b1 : Below w.heap.size w (w.alloc (catC v1 v2 v3)) := (Below.refl _ _).alloc (Nat.le_refl _) _
    have hb0 : Below (w.heap.size + 1) (w.alloc (catC v1 v2 v3)) (w.alloc (catC v1 v2 v3)) := Below.refl _ _
    have KC := Lib.hid (fun (W : World) (hW : Below (w.heap.size + 1) (w.alloc (catC v1 v2 v3)) W) => cat_at3 hW)
    have hil := lt_of_at hs
    have HIX := Lib.hid (fun (u : Int) (W : World) (hW : Below w.heap.size w W) => rindex_c c i u v1 v2 v3 W B (Nat.le_trans hB hW.size) (h.sheets.below shtS (hW.mono hB)) (Nat.le_of_lt hil))
    have hrep := h
    obtain ⟨A1, ca1, rfl, -⟩ := id h.langs
    obtain ⟨A2, ca2, rfl, -⟩ := id h.labels
    obtain ⟨A3, ca3, rfl, hc1, hc2, _⟩ := id h.sheets
    have HX := Lib.hid (fun (k : Nat) (x : Sheet) (hx : c.sheets[k]? = some x) (W : World) (hW : Below w.heap.size w W) => Sheets.at_ (h.sheets.below shtS (hW.mono hB)) hx)
    obtain ⟨b, off, vf, e9, hbB, g0, g1, -⟩ := HX.out i s hs _ b1
    subst e9
    have hbw0 : b < w.heap.size := by have : b < B := hbB; omega
    have hbw := Nat.lt_of_lt_of_le hbw0 b1.size
    have hki : (i : Int) < (c.sheets.length : Int) := by omega
    by_cases hsr : s.unit = root
    · have e0 : (s.unit == root) = true := by simp [hsr]
      have HE := Lib.hid (show rnumF c.sheets root i = ⟨#[49]⟩ from rnum_root hs hsr)
      clear hsr hs hr
      go_enter Tryz.func53, Tryz.ntmps53
      go_wp2
      go_ret
      exact ⟨ret_val (congrArg Value.string HE.out.symm), b1⟩
    · have e0 : (s.unit == root) = false := by simp [hsr]
      obtain ⟨j, x, hj, hx, hxu, hix, hjr⟩ := T.up_in hs hr hsr
      have HE := Lib.hid (show rnumF c.sheets root i = subS (rnumF c.sheets root j) (kidsN c.sheets (i + 1) s.parent) from rnum_up hs hsr hj hix)
      have HSZ := Lib.hid (T.size_le (root := root) h14 _ j (Nat.lt_succ_self _) x hx hjr)
      have IH := Lib.hid (fun (W : World) (hW : Below w.heap.size w W) => rnumber_c c T h14 root n j (by omega) x hx hjr _ _ _ W B (Nat.le_trans hB hW.size) (hrep.below (hW.mono hB)))
      have hjl : j < 14 := by have := lt_of_at hx; omega
      have HK0 := Lib.hid (show kidsN c.sheets 0 s.parent = 0 from rfl)
      have hkd : kidsN c.sheets (i + 1) s.parent < 100 := by have := kids_le (l := c.sheets) (i + 1) s.parent; omega
      have HIT := Lib.hid (fun (W : World) => Tryz.strconv_Itoa_small (kidsN c.sheets (i + 1) s.parent) hkd W)
      have hds := digits_le hkd
      have HKS := Lib.hid (fun (k : Nat) (x : Sheet) (hx : c.sheets[k]? = some x) => kids_succ (l := c.sheets) hx s.parent)
      have HS := Lib.hid hs
      have HIXJ := Lib.hid (fun (W : World) (hW : Below w.heap.size w W) => HIX.out s.parent W hW)
      rw [hix] at HIXJ
      have hi14 : i < 14 := by omega
      clear hs hr hsr hx hix hxu hjr
      go_enter Tryz.func53, Tryz.ntmps53
      go_wp2
      go_loopw [7, 8] (fun v7 v8 wr => ∃ k : Nat, k ≤ i + 1 ∧ v7 = .int .i64 (kidsN c.sheets k s.parent) ∧ v8 = .int .i64 k ∧ ∃ m, wr = (w.alloc (catC (.slice A1 c.langs.length ca1) (.slice A2 c.labels.length ca2) (.slice (some ⟨b, off, none⟩) c.sheets.length ca3))).drewN m) (fun _ v8 _ => i + 1 - (intOf v8).toNat)
      case atStart => exact ⟨0, Nat.zero_le _, by rw [HK0.out]; rfl, rfl, 0, rfl⟩
      case round =>
        obtain ⟨k, hk, rfl, rfl, m, rfl⟩ := hrel
        by_cases hlt : k ≤ i
        · obtain ⟨x, hx⟩ := get_at c.sheets (show k < c.sheets.length by omega)
          have hks := HKS.out k x hx
          obtain ⟨_, _, _, e9, -, q0, q1, -⟩ := HX.out k x hx _ b1
          cases e9
          have hkl : (k : Int) < (c.sheets.length : Int) := by omega
          have hkk : decide ((k : Int) ≤ (i : Int)) = true := decide_eq_true (by omega)
          have hkn : kidsN c.sheets k s.parent < 100 := by have := kids_le (l := c.sheets) k s.parent; omega
          clear hx
          by_cases hp : x.parent = s.parent
          · have e1 : (x.parent == s.parent) = true := by simp [hp]
            have HKN := Lib.hid (show kidsN c.sheets (k + 1) s.parent = kidsN c.sheets k s.parent + 1 by rw [hks, if_pos hp])
            clear hp hks
            obtain ⟨kk, hkk'⟩ : ∃ q, q = kidsN c.sheets k s.parent := ⟨_, rfl⟩
            rw [← hkk'] at hkn HKN ⊢
            clear hkk'
            go_wp2
            go_quiet (fail)
            go_wp2
            go_roundw
            case rel => exact ⟨k + 1, by omega, by rw [HKN.out]; go_num, by go_num, _, rfl⟩
            case measure => simp [intOf]; omega
          · have e1 : (x.parent == s.parent) = false := by simp [hp]
            have HKN := Lib.hid (show kidsN c.sheets (k + 1) s.parent = kidsN c.sheets k s.parent by rw [hks, if_neg hp]; rfl)
            clear hp hks
            obtain ⟨kk, hkk'⟩ : ∃ q, q = kidsN c.sheets k s.parent := ⟨_, rfl⟩
            rw [← hkk'] at hkn HKN ⊢
            clear hkk'
            go_wp2
            go_quiet (fail)
            go_wp2
            go_roundw
            case rel => exact ⟨k + 1, by omega, by rw [HKN.out], by go_num, _, rfl⟩
            case measure => simp [intOf]; omega
        · have hke : k = i + 1 := by omega
          subst hke
          have hkk : decide (((i : Int) + 1) ≤ (i : Int)) = false := decide_eq_false (by omega)
          have hdr := below_of_drew (w := w.alloc (catC (.slice A1 c.langs.length ca1) (.slice A2 c.labels.length ca2) (.slice (some ⟨b, off, none⟩) c.sheets.length ca3))) (w.heap.size + 1) ⟨m, rfl⟩
          generalize hwz : (w.alloc (catC (.slice A1 c.langs.length ca1) (.slice A2 c.labels.length ca2) (.slice (some ⟨b, off, none⟩) c.sheets.length ca3))).drewN m = wz at hdr ⊢
          clear hwz
          have hbX := hdr.drew
          have KS := Lib.hid (fun (W : World) (hW : Below (w.heap.size + 1) (w.alloc (catC (.slice A1 c.langs.length ca1) (.slice A2 c.labels.length ca2) (.slice (some ⟨b, off, none⟩) c.sheets.length ca3))) W) => (⟨(KC.out W hW).1, (KC.out W hW).2.1, (KC.out W hW).2.2.1, (KC.out W hW).2.2.2, by
            obtain ⟨_, _, _, e9, _, _, t1, -⟩ := HX.out i s HS.out W (b1.trans (hW.mono (by omega)))
            cases e9
            exact t1, by have := hW.size; simp at this; omega⟩ : W.cell? ⟨w.heap.size, 0, none⟩ = some (.slice A1 c.langs.length ca1) ∧ W.cell? ⟨w.heap.size, 1, none⟩ = some (.slice A2 c.labels.length ca2) ∧ W.cell? ⟨w.heap.size, 2, none⟩ = some (.slice (some ⟨b, off, none⟩) c.sheets.length ca3) ∧ w.heap.size < W.heap.size ∧ W.cell? ⟨b, off + i * 6 + 1, none⟩ = some (.int .i64 s.parent) ∧ b < W.heap.size))
          have hsz := HSZ.out
          have HDG := Lib.hid (show digS (kidsN c.sheets (i + 1) s.parent) = ⟨(Lib.decDigits (kidsN c.sheets (i + 1) s.parent)).toArray⟩ from rfl)
          have HE2 := Lib.hid (show rnumF c.sheets root i = rnumF c.sheets root j ++ ⟨#[46]⟩ ++ ⟨(Lib.decDigits (kidsN c.sheets (i + 1) s.parent)).toArray⟩ by rw [HE.out]; rfl)
          generalize (⟨(Lib.decDigits (kidsN c.sheets (i + 1) s.parent)).toArray⟩ : ByteArray) = dg at *
          generalize rnumF c.sheets root j = rj at *
          have hq1 : ¬ 9223372036854775807 < rj.size + 1 := by omega
          have hq2 : ¬ 9223372036854775807 < rj.size + 1 + dg.size := by omega
          have hq3 : (rj ++ ⟨#[46]⟩).size = rj.size + 1 := by rw [ByteArray.size_append]; rfl
          clear g0 g1 hsz
          go_wp2
          go_region_held3 (fun W => W.cell? ⟨w.heap.size, 0, none⟩ = some (.slice A1 c.langs.length ca1) ∧ W.cell? ⟨w.heap.size, 1, none⟩ = some (.slice A2 c.labels.length ca2) ∧ W.cell? ⟨w.heap.size, 2, none⟩ = some (.slice (some ⟨b, off, none⟩) c.sheets.length ca3) ∧ w.heap.size < W.heap.size ∧ W.cell? ⟨b, off + i * 6 + 1, none⟩ = some (.int .i64 s.parent) ∧ b < W.heap.size) (with_reducible exact KS.out _ hbX) (first
            | (go_at_call 53; (with_reducible refine (IH.out _ (b1.trans (hbX.mono (Nat.le_succ _)))).mono ?_); rintro e wJ ⟨rfl, hbJ⟩; have hbX := bnd_call hbX (by simp) hbJ)
            | (go_at_call 67; (with_reducible refine (HIT.out _).mono ?_); rintro e wK ⟨rfl, rfl⟩)
            | (go_at_call 38; (with_reducible refine (HIXJ.out _ (b1.trans (hbX.mono (Nat.le_succ _)))).mono ?_); rintro e wI ⟨rfl, hbI⟩; have hbX := bnd_call hbX (by simp) hbI))
          go_wp2
          go_ret
          exact ⟨ret_val (congrArg Value.string HE2.out.symm), b1.trans (hbX.mono (Nat.le_succ _))⟩
theorem num_none {c : Cat} {root u : Int} (h : ∀ (i : Nat) (y : Sheet), c.sheets[i]? = some y → y.unit = u → root ∉ chainF c.sheets i) : numU c root u = ⟨#[]⟩ := Classical.byContradiction fun e => by
  obtain ⟨-, i, y, h1, h2, h3, -⟩ := numU_some e
  exact h i y h1 h2 h3
theorem tupSB {a b : ByteArray} {x y : Bool} (h1 : a = b) (h2 : x = y) : Ending.returned (.tuple #[.string a, .bool x]) = .returned (.tuple #[.string b, .bool y]) := by rw [h1, h2]
set_option maxRecDepth 100000 in
set_option maxHeartbeats 8000000 in
theorem rNumber_c (c : Cat) (root u : Int) (v1 v2 v3 : Value) (w : World) (B : Nat) (hB : B ≤ w.heap.size) (h : CatRep w B c v1 v2 v3) (hl : c.sheets.length ≤ 1000) (h14 : catE c = 0 → c.sheets.length ≤ 14) :
    Calls Tryz.prog 18 #[.agg #[v1, v2, v3], .int .i64 root, .int .i64 u] w fun e w' => e = .returned (.tuple #[.string (numU c root u), .bool (decide (numU c root u ≠ ⟨#[]⟩))]) ∧ Below w.heap.size w w' := by
  have b1 : Below w.heap.size w (w.alloc (catC v1 v2 v3)) := (Below.refl _ _).alloc (Nat.le_refl _) _
  have hb0 : Below (w.heap.size + 1) (w.alloc (catC v1 v2 v3)) (w.alloc (catC v1 v2 v3)) := Below.refl _ _
  have KC := Lib.hid (fun (W : World) (hW : Below (w.heap.size + 1) (w.alloc (catC v1 v2 v3)) W) => cat_at3 hW)
  have HCK := Lib.hid (fun (W : World) (hW : Below w.heap.size w W) => rcheck47_c c v1 v2 v3 W B (Nat.le_trans hB hW.size) (h.below (hW.mono hB)) hl)
  have HIX := Lib.hid (fun (W : World) (hW : Below w.heap.size w W) => rindex_c c c.sheets.length u v1 v2 v3 W B (Nat.le_trans hB hW.size) (h.sheets.below shtS (hW.mono hB)) (Nat.le_refl _))
  rw [List.take_length] at HIX
  have HCH := Lib.hid (fun (j : Int) (hj : j < c.sheets.length) (W : World) (hW : Below w.heap.size w W) => rchain_c c j v1 v2 v3 W B (Nat.le_trans hB hW.size) (h.below (hW.mono hB)) hj hl)
  obtain ⟨A1, ca1, rfl, -⟩ := id h.langs
  obtain ⟨A2, ca2, rfl, -⟩ := id h.labels
  obtain ⟨A3, ca3, rfl, hc1, hc2, _⟩ := id h.sheets
  by_cases h1 : catE c = 0
  · have T := Cat.tree h1
    rcases idxF_cases (fun x : Sheet => decide (x.unit = u)) c.sheets with ⟨hi0, hno⟩ | ⟨k, x, hi0, hx, hxp, -⟩
    · have hi : shtIx c.sheets u = -1 := hi0
      have HE := Lib.hid (show numU c root u = ⟨#[]⟩ from num_none (fun i y hy hu _ => by have := hno y (List.mem_of_getElem? hy); simp [hu] at this))
      rw [h1] at HCK
      rw [hi] at HIX
      clear h1 hi0 hi hno
      go_enter Tryz.func18, Tryz.ntmps18
      go_wp2_with fail
      refine (HCK.out _ b1).mono ?_
      rintro e w1 ⟨rfl, hb1⟩
      have hbX := bnd_call hb0 (by simp) hb1
      obtain ⟨z0, z1, z2, zl⟩ := KC.out _ hbX
      have B1 := b1.trans (hbX.mono (Nat.le_succ _))
      go_wp2_with fail
      refine (HIX.out _ B1).mono ?_
      rintro e w2 ⟨rfl, hb2⟩
      go_wp2
      go_ret2
      exact ⟨tupSB HE.out.symm (by rw [HE.out]; simp), B1.trans (hb2.mono B1.size)⟩
    · have hi : shtIx c.sheets u = (k : Int) := hi0
      have hxu : x.unit = u := by simpa using hxp
      have hkl := lt_of_at hx
      have hj : (k : Int) < c.sheets.length := by omega
      have hkd : decide ((k : Int) < 0) = false := by simp
      cases hin : inB (chainF c.sheets (k : Int)) root
      · have HE := Lib.hid (show numU c root u = ⟨#[]⟩ from num_none (fun i y hy hu hr => by
          have := T.uniq hy hx (hu.trans hxu.symm)
          subst this
          rw [inB_iff.2 hr] at hin
          cases hin))
        have HIN := Lib.hid hin
        rw [h1] at HCK
        rw [hi] at HIX
        clear h1 hi0 hi hxp hxu hx hin T
        go_enter Tryz.func18, Tryz.ntmps18
        go_wp2_with fail
        refine (HCK.out _ b1).mono ?_
        rintro e w1 ⟨rfl, hb1⟩
        have hbX := bnd_call hb0 (by simp) hb1
        obtain ⟨z0, z1, z2, zl⟩ := KC.out _ hbX
        go_wp2_with fail
        refine (HIX.out _ (b1.trans (hbX.mono (Nat.le_succ _)))).mono ?_
        rintro e w2 ⟨rfl, hb2⟩
        have hbX := bnd_call hbX (by simp) hb2
        clear z0 z1 z2 zl
        obtain ⟨z0, z1, z2, zl⟩ := KC.out _ hbX
        go_wp2_with fail
        refine (HCH.out (k : Int) hj _ (b1.trans (hbX.mono (Nat.le_succ _)))).mono ?_
        rintro e wC ⟨vC, rfl, hownC, hbC⟩
        have hbX := bnd_call hbX (by simp) hbC
        have hch := hownC.toSl intS
        obtain ⟨AC, cC, rfl, -⟩ := id hch
        go_wp2_with fail
        refine (rin_c (chainF c.sheets (k : Int)) root _ _ (fun b => b < wC.heap.size) (fun _ h => h) hch).mono ?_
        rintro e w3 ⟨he, rfl⟩
        rw [HIN.out] at he
        subst he
        go_wp2
        go_ret2
        exact ⟨tupSB HE.out.symm (by rw [HE.out]; simp), b1.trans (hbX.mono (Nat.le_succ _))⟩
      · have hr := inB_iff.1 hin
        have HNU := Lib.hid (fun (W : World) (hW : Below w.heap.size w W) => rnumber_c c T (h14 h1) root _ k (Nat.lt_succ_self _) x hx hr (.slice A1 c.langs.length ca1) (.slice A2 c.labels.length ca2) (.slice A3 c.sheets.length ca3) W B (Nat.le_trans hB hW.size) (h.below (hW.mono hB)))
        have HE := Lib.hid (show numU c root u = rnumF c.sheets root k by rw [← hxu]; exact num_is hx h1 hr)
        have HNE := Lib.hid (num_ne T hx hr)
        have HIN := Lib.hid hin
        rw [h1] at HCK
        rw [hi] at HIX
        clear h1 hi0 hi hxp hxu hx hin T hr
        go_enter Tryz.func18, Tryz.ntmps18
        go_wp2_with fail
        refine (HCK.out _ b1).mono ?_
        rintro e w1 ⟨rfl, hb1⟩
        have hbX := bnd_call hb0 (by simp) hb1
        obtain ⟨z0, z1, z2, zl⟩ := KC.out _ hbX
        go_wp2_with fail
        refine (HIX.out _ (b1.trans (hbX.mono (Nat.le_succ _)))).mono ?_
        rintro e w2 ⟨rfl, hb2⟩
        have hbX := bnd_call hbX (by simp) hb2
        clear z0 z1 z2 zl
        obtain ⟨z0, z1, z2, zl⟩ := KC.out _ hbX
        go_wp2_with fail
        refine (HCH.out (k : Int) hj _ (b1.trans (hbX.mono (Nat.le_succ _)))).mono ?_
        rintro e wC ⟨vC, rfl, hownC, hbC⟩
        have hbX := bnd_call hbX (by simp) hbC
        have hch := hownC.toSl intS
        obtain ⟨AC, cC, rfl, -⟩ := id hch
        go_wp2_with fail
        refine (rin_c (chainF c.sheets (k : Int)) root _ _ (fun b => b < wC.heap.size) (fun _ h => h) hch).mono ?_
        rintro e w3 ⟨he, rfl⟩
        rw [HIN.out] at he
        subst he
        clear z0 z1 z2 zl
        obtain ⟨z0, z1, z2, zl⟩ := KC.out _ hbX
        go_wp2_with fail
        refine (HNU.out _ (b1.trans (hbX.mono (Nat.le_succ _)))).mono ?_
        rintro e w4 ⟨rfl, hb4⟩
        go_wp2
        go_ret2
        exact ⟨tupSB HE.out.symm (by rw [HE.out]; simp [HNE.out]), b1.trans ((bnd_call hbX (by simp) hb4).mono (Nat.le_succ _))⟩
  · have HE := Lib.hid (show numU c root u = ⟨#[]⟩ by unfold numU; rw [if_neg h1])
    obtain ⟨n1, n2⟩ := ne_boolR h1
    clear h1
    go_enter Tryz.func18, Tryz.ntmps18
    go_wp2_with fail
    refine (HCK.out _ b1).mono ?_
    rintro e w1 ⟨rfl, hb1⟩
    have hbX := bnd_call hb0 (by simp) hb1
    go_wp2
    go_ret2
    exact ⟨tupSB HE.out.symm (by rw [HE.out]; simp), b1.trans (hbX.mono (Nat.le_succ _))⟩
end Go.Proofs.YtbmlnflacdockaaGreatDoor
