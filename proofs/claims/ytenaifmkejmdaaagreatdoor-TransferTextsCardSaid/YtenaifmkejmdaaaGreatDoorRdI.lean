/- The program: readItem: a line that is an item. -/
import Derived.Test.YtenaifmkejmdaaaGreatDoorPut
import Derived.Test.YtenaifmkejmdaaaGreatDoorUnh
namespace Go.Proofs.YtenaifmkejmdaaaGreatDoor
open Go.RowKit

theorem rowO_ne {s : ByteArray} (h : (splBN 32 7 s).length ≠ 8) : rowO s.data.toList = none := by
  have h2 : (splN 32 7 [] s.data.toList).length ≠ 8 := by rw [← splBN_is, List.length_map]; exact h
  unfold rowO
  split
  · rename_i heq
    rw [heq] at h2
    exact absurd rfl h2
  · rfl
theorem list8 {α : Type} {l : List α} (h : l.length = 8) : ∃ a b c d e f g i, l = [a, b, c, d, e, f, g, i] := by
  match l, h with
  | [a, b, c, d, e, f, g, i], _ => exact ⟨_, _, _, _, _, _, _, _, rfl⟩
theorem rowO_is {s p0 p1 p2 p3 p4 p5 p6 p7 : ByteArray} (h : splBN 32 7 s = [p0, p1, p2, p3, p4, p5, p6, p7]) : splN 32 7 [] s.data.toList = [p0.data.toList, p1.data.toList, p2.data.toList, p3.data.toList, p4.data.toList, p5.data.toList, p6.data.toList, p7.data.toList] := by
  rw [← splBN_is, h]; rfl
abbrev bItem : ByteArray := ⟨#[105, 116, 101, 109]⟩
theorem bs_is {a : ByteArray} {l : List UInt8} : a.data.toList = l ↔ a = ⟨l.toArray⟩ := ⟨fun h => bytes_of h, fun h => by rw [h]⟩
theorem rowO_word {s p0 p1 p2 p3 p4 p5 p6 p7 : ByteArray} (h : splBN 32 7 s = [p0, p1, p2, p3, p4, p5, p6, p7]) (h0 : p0 ≠ bItem) : rowO s.data.toList = none := by
  unfold rowO
  rw [rowO_is h]
  show (if p0.data.toList = wItem then _ else none) = none
  rw [if_neg (show ¬ p0.data.toList = wItem from fun e => h0 (bs_is.1 e))]
theorem rowO_nums {s p0 p1 p2 p3 p4 p5 p6 p7 : ByteArray} (h : splBN 32 7 s = [p0, p1, p2, p3, p4, p5, p6, p7]) (hn : numsO [p1.data.toList, p2.data.toList, p3.data.toList, p4.data.toList, p5.data.toList] = none) : rowO s.data.toList = none := by
  unfold rowO
  rw [rowO_is h]
  simp only [hn]
  split <;> rfl
theorem rowO_hex {s p0 p1 p2 p3 p4 p5 p6 p7 : ByteArray} (h : splBN 32 7 s = [p0, p1, p2, p3, p4, p5, p6, p7]) (hn : unhexO p6.data.toList = none) : rowO s.data.toList = none := by
  unfold rowO
  rw [rowO_is h]
  simp only [hn]
  split
  · split
    · rename_i h9; cases h9
    · rfl
  · rfl
theorem rowO_yes {s p1 p2 p3 p4 p5 p6 p7 : ByteArray} {a b c d e : Nat} {g : List UInt8} (h : splBN 32 7 s = [bItem, p1, p2, p3, p4, p5, p6, p7]) (hn : numsO [p1.data.toList, p2.data.toList, p3.data.toList, p4.data.toList, p5.data.toList] = some [a, b, c, d, e]) (hg : unhexO p6.data.toList = some g) : rowO s.data.toList = some ⟨a, b, p7, c, d, e, ⟨g.toArray⟩⟩ := by
  unfold rowO
  rw [rowO_is h]
  simp only [hn, hg]
  rfl
theorem numsO_len : ∀ {l : List (List UInt8)} {ns : List Nat}, numsO l = some ns → ns.length = l.length
  | [], ns, h => by simp [numsO] at h; subst h; rfl
  | x :: l, ns, h => by
    rw [numsO_cons] at h
    cases hx : numO x with
    | none => rw [hx] at h; cases h
    | some n =>
      rw [hx] at h
      cases hl : numsO l with
      | none => rw [hl] at h; cases h
      | some m =>
        rw [hl] at h
        have hh : some (n :: m) = some ns := h
        injection hh with hh
        subst hh
        rw [List.length_cons, List.length_cons, numsO_len hl]
theorem list5 {α : Type} {l : List α} (h : l.length = 5) : ∃ a b c d e, l = [a, b, c, d, e] := by
  match l, h with
  | [a, b, c, d, e], _ => exact ⟨_, _, _, _, _, rfl⟩

def itPart (ns : List Int) : Item := ⟨ns.getD 0 0, ns.getD 1 0, bE, ns.getD 2 0, ns.getD 3 0, ns.getD 4 0, bE⟩
abbrev itmA (x : Item) : Array Value := #[.int .i64 x.number, .int .i64 x.file, .string x.title, .int .i64 x.first, .int .i64 x.last, .int .i64 x.pages, .string x.digest]
theorem putZ_item (ns : List Int) (h : ns.length ≤ 5) : putZ (itmA (itPart [])) [0, 1, 3, 4, 5] ns = itmA (itPart ns) := by
  match ns, h with
  | [], _ => rfl
  | [a], _ => rfl
  | [a, b], _ => rfl
  | [a, b, c], _ => rfl
  | [a, b, c, d], _ => rfl
  | [a, b, c, d, e], _ => rfl
def readItemQ (s : ByteArray) (w : World) (e : Ending) (w' : World) : Prop := ∃ x, e = .returned (.tuple #[itmV x, .bool (rowO s.data.toList).isSome]) ∧ (∀ y, rowO s.data.toList = some y → x = y) ∧ Below w.heap.size w w'
theorem itm_at {W : World} {b : Nat} {x : Item} (h : W.heap[b]? = some (itmC x)) : W.cell? ⟨b, 0, none⟩ = some (.int .i64 x.number) ∧ W.cell? ⟨b, 1, none⟩ = some (.int .i64 x.file) ∧ W.cell? ⟨b, 2, none⟩ = some (.string x.title) ∧ W.cell? ⟨b, 3, none⟩ = some (.int .i64 x.first) ∧ W.cell? ⟨b, 4, none⟩ = some (.int .i64 x.last) ∧ W.cell? ⟨b, 5, none⟩ = some (.int .i64 x.pages) ∧ W.cell? ⟨b, 6, none⟩ = some (.string x.digest) :=
  ⟨by rw [Lib.cell_of_heap h]; rfl, by rw [Lib.cell_of_heap h]; rfl, by rw [Lib.cell_of_heap h]; rfl, by rw [Lib.cell_of_heap h]; rfl, by rw [Lib.cell_of_heap h]; rfl, by rw [Lib.cell_of_heap h]; rfl, by rw [Lib.cell_of_heap h]; rfl⟩
abbrev rdW (w : World) : World := (w.alloc (itmC (itPart []))).alloc (itmC (itPart []))
theorem rdW_at (w : World) : (rdW w).heap[w.heap.size]? = some (itmC (itPart [])) ∧ (rdW w).heap[w.heap.size + 1]? = some (itmC (itPart [])) ∧ (rdW w).heap.size = w.heap.size + 2 := by
  refine ⟨(Below.heap_alloc _ _ _ (by simp)).trans (heap_newA w _), ?_, by simp⟩
  have := heap_newA (w.alloc (itmC (itPart []))) (itmC (itPart []))
  rwa [show (w.alloc (itmC (itPart []))).heap.size = w.heap.size + 1 by simp] at this
abbrev ptrC (b : Nat) : Obj := .cells #[.pointer (some ⟨b, 0, none⟩), .pointer (some ⟨b, 1, none⟩), .pointer (some ⟨b, 3, none⟩), .pointer (some ⟨b, 4, none⟩), .pointer (some ⟨b, 5, none⟩)] 77
theorem ptr_at {W : World} {g b : Nat} {x : Item} (h : W.heap[g]? = some (ptrC b)) : ∀ (i : Nat) o, ([0, 1, 3, 4, 5] : List Nat)[i]? = some o → W.cell? ⟨g, i, none⟩ = some (.pointer (some ⟨b, o, none⟩)) ∧ o < (itmA x).size := by
  intro i o hi
  rw [Lib.cell_of_heap h]
  match i, hi with
  | 0, hi => cases hi; exact ⟨rfl, (show 0 < 7 by decide)⟩
  | 1, hi => cases hi; exact ⟨rfl, (show 1 < 7 by decide)⟩
  | 2, hi => cases hi; exact ⟨rfl, (show 3 < 7 by decide)⟩
  | 3, hi => cases hi; exact ⟨rfl, (show 4 < 7 by decide)⟩
  | 4, hi => cases hi; exact ⟨rfl, (show 5 < 7 by decide)⟩
  | n + 5, hi => simp at hi
theorem rd_some {s p1 p2 p3 p4 p5 p6 p7 : ByteArray} {l : List Nat} (h : splBN 32 7 s = [bItem, p1, p2, p3, p4, p5, p6, p7]) (hn : numsO [p1.data.toList, p2.data.toList, p3.data.toList, p4.data.toList, p5.data.toList] = some l) :
    rowO s.data.toList = (unhexO p6.data.toList).map fun gg => (⟨(itPart (toZ l)).number, (itPart (toZ l)).file, p7, (itPart (toZ l)).first, (itPart (toZ l)).last, (itPart (toZ l)).pages, ⟨gg.toArray⟩⟩ : Item) := by
  cases hu : unhexO p6.data.toList with
  | none => rw [rowO_hex h hu]; rfl
  | some gg =>
    obtain ⟨a, b, c, d, e, rfl⟩ := list5 (numsO_len hn)
    rw [rowO_yes h hn hu]
    rfl
set_option maxRecDepth 100000 in
set_option maxHeartbeats 600000 in
theorem rdi_word (s : ByteArray) (w : World) (hs : s.size ≤ 1000000) (hV : VarOk w) (h8 : (splBN 32 7 s).length = 8) (hq : ∀ p ∈ (splBN 32 7 s).head?, p ≠ bItem) (hps : ∀ x ∈ splBN 32 7 s, x.size ≤ 1000000) :
    Calls Tryz.prog 47 #[.string s] w fun e w' => readItemQ s w e w' := by
  have HB := Lib.hid (((Below.refl _ _).alloc (Nat.le_refl _) _).alloc (by simp) _ : Below w.heap.size w (rdW w))
  have HSP := Lib.hid (splitN_c 32 7 s _ hs (by decide) (hV.below HB.out))
  obtain ⟨g, hg⟩ : ∃ g, (rdW w).heap.size = g := ⟨_, rfl⟩
  rw [hg] at HSP
  have HG := Lib.hid (hg.symm.trans (rdW_at w).2.2 : g = w.heap.size + 2)
  obtain ⟨x0, hx0⟩ : ∃ x, itPart [] = x := ⟨_, rfl⟩
  have HX0 := Lib.hid (fun (W : World) (hW : Below g (rdW w) W) => (And.intro ((hW.block w.heap.size (by have := HG.out; omega)).trans (by rw [← hx0]; exact (rdW_at w).1)) ((hW.block (w.heap.size + 1) (by have := HG.out; omega)).trans (by rw [← hx0]; exact (rdW_at w).2.1)) : W.heap[w.heap.size]? = some (itmC x0) ∧ W.heap[w.heap.size + 1]? = some (itmC x0)))
  have HX := Lib.hid hx0
  have HV := Lib.hid hV
  have HPS := Lib.hid hps
  clear hx0 hg hV hps
  obtain ⟨p0, p1, p2, p3, p4, p5, p6, p7, hsp⟩ := list8 h8
  rw [hsp] at HSP
  have hw0 : p0 ≠ bItem := hq p0 (by rw [hsp]; rfl)
  have HSS := Lib.hid hsp
  clear hsp hq
  have hr0 : (p0.toList == ([105, 116, 101, 109] : List UInt8)) = false := by
    have := bs_ne hw0
    rwa [show bItem.toList = [105, 116, 101, 109] by rw [ByteArray.toList_eq]] at this
  have HE := Lib.hid (rowO_word HSS.out hw0)
  clear hw0 h8
  go_enter Tryz.func47, Tryz.ntmps47
  go_wp2_with fail
  refine HSP.out.mono ?_
  rintro e w1 ⟨⟨k, rfl, hk8, hkm, hsl⟩, hb1, hz1⟩
  have hd0 := HX0.out w1 hb1 |>.1
  have hd1 := HX0.out w1 hb1 |>.2
  have bW := HB.out.trans (hb1.mono (by have := HG.out; omega))
  obtain ⟨g0, o0, e0, hg0, z0⟩ := sl_str hsl (i := 0) rfl
  cases e0
  simp only [Nat.add_zero] at z0
  simp only [List.length_cons, List.length_nil, Nat.reduceAdd]
  obtain ⟨i0, i1, i2, i3, i4, i5, i6⟩ := itm_at hd1
  obtain ⟨⟨c0, f0, c1, f1, c2, f2, c3, f3, c4, f4, c5, f5, c6, f6⟩, r0, r1, r2, r3, r4, r5, r6⟩ := pI_facts x0 hd0
  have HF := Lib.hid (pI_below (b := w.heap.size) x0 bW (Nat.le_refl _))
  clear hsl HSP hd0 hd1 bW hb1
  go_wp2
  refine bodyPost_ret (v := .tuple #[itmV x0, .bool false]) (by simp [results, Tryz.results47, go_sem, r0, r1, r2, r3, r4, r5, r6]) rfl ⟨x0, by rw [HE.out]; rfl, (fun y hy => by rw [HE.out] at hy; cases hy), HF.out⟩
set_option maxRecDepth 100000 in
set_option maxHeartbeats 600000 in
theorem rdi_len (s : ByteArray) (w : World) (hs : s.size ≤ 1000000) (hV : VarOk w) (h8 : (splBN 32 7 s).length ≠ 8) (hps : ∀ x ∈ splBN 32 7 s, x.size ≤ 1000000) :
    Calls Tryz.prog 47 #[.string s] w fun e w' => readItemQ s w e w' := by
  have HB := Lib.hid (((Below.refl _ _).alloc (Nat.le_refl _) _).alloc (by simp) _ : Below w.heap.size w (rdW w))
  have HSP := Lib.hid (splitN_c 32 7 s _ hs (by decide) (hV.below HB.out))
  obtain ⟨g, hg⟩ : ∃ g, (rdW w).heap.size = g := ⟨_, rfl⟩
  rw [hg] at HSP
  have HG := Lib.hid (hg.symm.trans (rdW_at w).2.2 : g = w.heap.size + 2)
  obtain ⟨x0, hx0⟩ : ∃ x, itPart [] = x := ⟨_, rfl⟩
  have HX0 := Lib.hid (fun (W : World) (hW : Below g (rdW w) W) => (And.intro ((hW.block w.heap.size (by have := HG.out; omega)).trans (by rw [← hx0]; exact (rdW_at w).1)) ((hW.block (w.heap.size + 1) (by have := HG.out; omega)).trans (by rw [← hx0]; exact (rdW_at w).2.1)) : W.heap[w.heap.size]? = some (itmC x0) ∧ W.heap[w.heap.size + 1]? = some (itmC x0)))
  have HX := Lib.hid hx0
  have HV := Lib.hid hV
  have HPS := Lib.hid hps
  clear hx0 hg hV hps
  have HE := Lib.hid (rowO_ne h8)
  have h8b : (((splBN 32 7 s).length : Int) != 8) = true := by simpa using (fun e => h8 (by omega) : ¬ ((splBN 32 7 s).length : Int) = 8)
  generalize (splBN 32 7 s) = ts at *
  · clear h8
    go_enter Tryz.func47, Tryz.ntmps47
    go_wp2_with fail
    refine HSP.out.mono ?_
    rintro e w1 ⟨⟨k, rfl, hk8, hkm, hsl⟩, hb1, hz1⟩
    have hd0 := HX0.out w1 hb1 |>.1
    have hd1 := HX0.out w1 hb1 |>.2
    have bW := HB.out.trans (hb1.mono (by have := HG.out; omega))
    obtain ⟨i0, i1, i2, i3, i4, i5, i6⟩ := itm_at hd1
    obtain ⟨⟨c0, f0, c1, f1, c2, f2, c3, f3, c4, f4, c5, f5, c6, f6⟩, r0, r1, r2, r3, r4, r5, r6⟩ := pI_facts x0 hd0
    have HF := Lib.hid (pI_below (b := w.heap.size) x0 bW (Nat.le_refl _))
    clear hsl HSP hd0 hd1 bW hb1
    go_wp2
    refine bodyPost_ret (v := .tuple #[itmV x0, .bool false]) (by simp [results, Tryz.results47, go_sem, r0, r1, r2, r3, r4, r5, r6]) rfl ⟨x0, by rw [HE.out]; rfl, (fun y hy => by rw [HE.out] at hy; cases hy), HF.out⟩

set_option maxRecDepth 100000 in
set_option maxHeartbeats 8000000 in
theorem readItem_c (s : ByteArray) (w : World) (hs : s.size ≤ 1000000) (hV : VarOk w) (hps : ∀ x ∈ splBN 32 7 s, x.size ≤ 1000000) :
    Calls Tryz.prog 47 #[.string s] w fun e w' => readItemQ s w e w' := by
  have HB := Lib.hid (((Below.refl _ _).alloc (Nat.le_refl _) _).alloc (by simp) _ : Below w.heap.size w (rdW w))
  have HSP := Lib.hid (splitN_c 32 7 s _ hs (by decide) (hV.below HB.out))
  obtain ⟨g, hg⟩ : ∃ g, (rdW w).heap.size = g := ⟨_, rfl⟩
  rw [hg] at HSP
  have HG := Lib.hid (hg.symm.trans (rdW_at w).2.2 : g = w.heap.size + 2)
  obtain ⟨x0, hx0⟩ : ∃ x, itPart [] = x := ⟨_, rfl⟩
  have HX0 := Lib.hid (fun (W : World) (hW : Below g (rdW w) W) => (And.intro ((hW.block w.heap.size (by have := HG.out; omega)).trans (by rw [← hx0]; exact (rdW_at w).1)) ((hW.block (w.heap.size + 1) (by have := HG.out; omega)).trans (by rw [← hx0]; exact (rdW_at w).2.1)) : W.heap[w.heap.size]? = some (itmC x0) ∧ W.heap[w.heap.size + 1]? = some (itmC x0)))
  have HX := Lib.hid hx0
  have HV := Lib.hid hV
  have HPS := Lib.hid hps
  clear hx0 hg hV hps
  by_cases h8 : (splBN 32 7 s).length = 8
  · obtain ⟨p0, p1, p2, p3, p4, p5, p6, p7, hsp⟩ := list8 h8
    rw [hsp] at HSP
    have HSS := Lib.hid hsp
    clear hsp
    by_cases hw0 : p0 = bItem
    · have hr1 : p0.toList = ([105, 116, 101, 109] : List UInt8) := by rw [hw0, ByteArray.toList_eq]
      have HW0 := Lib.hid hw0
      clear hw0 h8
      go_enter Tryz.func47, Tryz.ntmps47
      go_wp2_with fail
      refine HSP.out.mono ?_
      rintro e w1 ⟨⟨k, rfl, hk8, hkm, hsl⟩, hb1, hz1⟩
      have hd0 := HX0.out w1 hb1 |>.1
      have hd1 := HX0.out w1 hb1 |>.2
      have bW := HB.out.trans (hb1.mono (by have := HG.out; omega))
      obtain ⟨g0, o0, e0, hg0, z0⟩ := sl_str hsl (i := 0) rfl
      cases e0
      obtain ⟨g6, o6, e6, hg6, z6⟩ := sl_str hsl (i := 6) rfl
      cases e6
      obtain ⟨g7, o7, e7, hg7, z7⟩ := sl_str hsl (i := 7) rfl
      cases e7
      simp only [Nat.add_zero, Nat.zero_add] at z0 z6 z7
      simp only [List.length_cons, List.length_nil, Nat.reduceAdd] at hk8
      simp only [List.length_cons, List.length_nil, Nat.reduceAdd]
      have hk1 : ¬ k = 1 := by omega
      have HSL := Lib.hid (sl_part hsl 1 5 (k - 1) (by simp) (by omega) (by omega))
      clear hsl HSP
      have HD := Lib.hid (And.intro hd0 hd1)
      have HBW := Lib.hid bW
      clear hd0 hd1 bW hb1
      go_wp2_with fail
      have hpt : (w1.alloc (ptrC (w.heap.size + 1))).heap[g + 1]? = some (ptrC (w.heap.size + 1)) := by
        have := heap_newA w1 (ptrC (w.heap.size + 1))
        rwa [hz1] at this
      have hba : Below w1.heap.size w1 (w1.alloc (ptrC (w.heap.size + 1))) := (Below.refl _ _).alloc (Nat.le_refl _) _
      have hgv := HG.out
      refine (read_c [p1, p2, p3, p4, p5] [0, 1, 3, 4, 5] _ (itmA x0) 47 (w.heap.size + 1) (g + 1) (w1.alloc (ptrC (w.heap.size + 1))) (fun b => b = g) (SlRep.frame strS (fun b hb => hba.block b (by have : b = g := hb; omega)) HSL.out) (fun k hk => ⟨by have : k = g := hk; simp; omega, by have : k = g := hk; omega⟩) ((hba.block _ (by omega)).trans HD.out.2) (by omega) (ptr_at hpt) (fun x hx => HPS.out x (by rw [HSS.out]; simp only [List.mem_cons, List.not_mem_nil, or_false] at hx; rcases hx with rfl | rfl | rfl | rfl | rfl <;> simp)) (fun W hW => HV.out.below ((HBW.out.trans (hba.mono (by omega))).trans (hW.mono (by omega)))) rfl (by decide)).mono ?_
      rintro e w2 ⟨hbut, rfl, ns, hcell, hnl, hns⟩
      have hd0 := (hbut.same w.heap.size (by simp; omega) (by omega)).trans ((hba.block _ (by omega)).trans HD.out.1)
      have hd1 : w2.heap[w.heap.size + 1]? = some (itmC (itPart ns)) := by
        rw [← HX.out] at hcell
        rw [hcell, putZ_item ns hnl]
      have HNS := Lib.hid hns
      have bW2 : Below w.heap.size w w2 := (HBW.out.trans (hba.mono (by omega))).trans (hbut.below.mono (by omega))
      have y6 := hbut.cell (((hba.cell (p := ⟨g, 6, none⟩) (by show g < _; omega))).trans z6) (show g ≠ _ by omega)
      have y7 := hbut.cell (((hba.cell (p := ⟨g, 7, none⟩) (by show g < _; omega))).trans z7) (show g ≠ _ by omega)
      obtain ⟨xr, hxr⟩ : ∃ x, itPart ns = x := ⟨_, rfl⟩
      rw [hxr] at hd1
      have HXR := Lib.hid hxr
      have hlx := heap_ltA hd1
      have hl2 : g < w2.heap.size := by have := hbut.below.size; simp at this; omega
      clear hns hxr hcell hpt hba hbut hgv hz1 z6 z7
      obtain ⟨nm, hnm⟩ : ∃ o, numsO [p1.data.toList, p2.data.toList, p3.data.toList, p4.data.toList, p5.data.toList] = o := ⟨_, rfl⟩
      have HNM := Lib.hid hnm
      simp only [List.map_cons, List.map_nil]
      rw [hnm]
      clear hnm
      cases nm with
      | none =>
        have HE := Lib.hid (rowO_nums HSS.out HNM.out)
        obtain ⟨i0, i1, i2, i3, i4, i5, i6⟩ := itm_at hd1
        obtain ⟨⟨c0, f0, c1, f1, c2, f2, c3, f3, c4, f4, c5, f5, c6, f6⟩, r0, r1, r2, r3, r4, r5, r6⟩ := pI_facts xr hd0
        have HF := Lib.hid (pI_below (b := w.heap.size) xr bW2 (Nat.le_refl _))
        clear hd0 hd1 bW2 y6 y7
        go_wp2
        refine bodyPost_ret (v := .tuple #[itmV xr, .bool false]) (by simp [results, Tryz.results47, go_sem, r0, r1, r2, r3, r4, r5, r6]) rfl ⟨xr, by rw [HE.out]; rfl, (fun y hy => by rw [HE.out] at hy; cases hy), HF.out⟩
      | some l =>
        obtain ⟨dg, hdg⟩ : ∃ d : ByteArray, ⟨((unhexO p6.data.toList).getD []).toArray⟩ = d := ⟨_, rfl⟩
        obtain ⟨ok, hok⟩ : ∃ d : Bool, (unhexO p6.data.toList).isSome = d := ⟨_, rfl⟩
        have HU := Lib.hid (unhex_c p6 w2)
        unfold unhR at HU
        rw [hdg, hok] at HU
        have HDG := Lib.hid hdg
        have HOK := Lib.hid hok
        clear hdg hok
        go_wp2_with fail
        refine HU.out.mono ?_
        rintro e w3 ⟨rfl, hb3⟩
        have hd0 := (hb3.block _ (heap_ltA hd0)).trans hd0
        have hd1 := (hb3.block _ hlx).trans hd1
        have y7 := (hb3.cell (p := ⟨g, 7, none⟩) hl2).trans y7
        have hdx := put_at hd1 6 (.string dg) _ rfl
        have hdy := put_at hdx 2 (.string p7) #[.int .i64 xr.number, .int .i64 xr.file, .string p7, .int .i64 xr.first, .int .i64 xr.last, .int .i64 xr.pages, .string dg] rfl
        have q6 : w3.cell? ⟨w.heap.size + 1, 6, none⟩ = some (.string xr.digest) := by rw [Lib.cell_of_heap hd1]; rfl
        have e6 := Lib.frozen_of_heap hd1 6
        have q2 : (w3.setCell ⟨w.heap.size + 1, 6, none⟩ (.string dg)).cell? ⟨w.heap.size + 1, 2, none⟩ = some (.string xr.title) := by rw [Lib.cell_of_heap hdx]; rfl
        have e2 := Lib.frozen_of_heap hdx 2
        obtain ⟨xn, hxn⟩ : ∃ x : Item, (⟨xr.number, xr.file, p7, xr.first, xr.last, xr.pages, dg⟩ : Item) = x := ⟨_, rfl⟩
        have hdz : ((w3.setCell ⟨w.heap.size + 1, 6, none⟩ (.string dg)).setCell ⟨w.heap.size + 1, 2, none⟩ (.string p7)).heap[w.heap.size + 1]? = some (itmC xn) := by rw [← hxn]; exact hdy
        have hdw : ((w3.setCell ⟨w.heap.size + 1, 6, none⟩ (.string dg)).setCell ⟨w.heap.size + 1, 2, none⟩ (.string p7)).heap[w.heap.size]? = some (itmC x0) := by rw [Below.heap_setCell _ _ _ _ (by show w.heap.size ≠ w.heap.size + 1; omega), Below.heap_setCell _ _ _ _ (by show w.heap.size ≠ w.heap.size + 1; omega)]; exact hd0
        have bW3 := (bW2.trans (hb3.mono bW2.size)).setCell (p := ⟨w.heap.size + 1, 6, none⟩) (Nat.le_succ _) (.string dg) |>.setCell (p := ⟨w.heap.size + 1, 2, none⟩) (Nat.le_succ _) (.string p7)
        obtain ⟨i0, i1, i2, i3, i4, i5, i6⟩ := itm_at hdz
        obtain ⟨⟨c0, f0, c1, f1, c2, f2, c3, f3, c4, f4, c5, f5, c6, f6⟩, r0, r1, r2, r3, r4, r5, r6⟩ := pI_facts xn hdw
        have HF := Lib.hid (pI_below (b := w.heap.size) xn bW3 (Nat.le_refl _))
        have HXN := Lib.hid hxn
        clear hd0 hd1 bW2 bW3 hdx hdy hdz hdw hxn hb3 y6
        go_wp2
        refine bodyPost_ret (v := .tuple #[itmV xn, .bool ok]) (by simp [results, Tryz.results47, go_sem, r0, r1, r2, r3, r4, r5, r6]) rfl ⟨xn, ?_, ?_, HF.out⟩
        · have hrow := rd_some (HSS.out.trans (by rw [HW0.out])) HNM.out
          rw [hrow, Option.isSome_map, HOK.out]
        · intro y hy
          have hrow := rd_some (HSS.out.trans (by rw [HW0.out])) HNM.out
          rw [hrow] at hy
          have hxx : itPart (toZ l) = xr := by rw [← HNS.out l HNM.out]; exact HXR.out
          rw [hxx] at hy
          cases hu : unhexO p6.data.toList with
          | none => rw [hu] at hy; exact absurd hy (by simp)
          | some gg =>
            rw [hu] at hy
            have hd : (⟨gg.toArray⟩ : ByteArray) = dg := by have := HDG.out; rw [hu] at this; exact this
            have hy2 := Option.some.inj (hy : some _ = some y)
            rw [← hy2, ← HXN.out, ← hd]
    · exact rdi_word s w hs HV.out h8 (by rw [HSS.out]; intro p hp; cases hp; exact hw0) HPS.out
  · exact rdi_len s w hs HV.out h8 HPS.out
end Go.Proofs.YtenaifmkejmdaaaGreatDoor
