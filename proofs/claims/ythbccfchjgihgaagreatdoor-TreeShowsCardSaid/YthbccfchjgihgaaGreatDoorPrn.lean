/- The program: Print. -/
import Derived.Test.YthbccfchjgihgaaGreatDoorBel
import Derived.Test.YthbccfchjgihgaaGreatDoorBld
import Derived.Lib.ItoaLen
import Derived.Lib.AppendIntMem
namespace Go.Proofs.YthbccfchjgihgaaGreatDoor
open Go.RowKit Go.Shelf Go.Sort

attribute [local go_sem] Oper.semAt_some
theorem bytes_app (a b : ByteArray) : (a ++ b).data.toList = a.data.toList ++ b.data.toList := by
  simp
theorem bytes_size {a : ByteArray} {l : List UInt8} (h : a.data.toList = l) : a.size = l.length := by
  rw [← h, Array.length_toList]; rfl
theorem below_of_grow {w w' : World} (h : ∃ k os, w' = grow (w.drewN k) os) : Below w.heap.size w w' := by
  obtain ⟨k, os, rfl⟩ := h
  exact Lib.below_grow _ _ (Nat.le_refl _) k os
theorem blanks (n : Nat) : Lib.repeatL [32, 32] n = List.replicate (2 * n) 32 := by
  induction n with
  | zero => rfl
  | succ n ih => rw [Lib.repeatL, ih, show 2 * (n + 1) = 2 * n + 1 + 1 by omega, List.replicate_succ, List.replicate_succ]; rfl
abbrev wdsC : Obj := .cells #[.string ⟨#[]⟩, .string ⟨#[102, 111, 110, 100, 115]⟩, .string ⟨#[115, 101, 114, 105, 101, 115]⟩, .string ⟨#[102, 105, 108, 101]⟩, .string ⟨#[105, 116, 101, 109]⟩] 90
abbrev bldC : Obj := .cells #[.pointer none, .slice none 0 0] 94
def wordS (n : Nat) : ByteArray := ⟨(wordL n).toArray⟩
theorem wds_at {W : World} {g n : Nat} (h : W.heap[g]? = some wdsC) (h1 : 1 ≤ n) (h2 : n ≤ 4) : W.cell? ⟨g, n, none⟩ = some (.string (wordS n)) := by
  rw [Lib.cell_of_heap h]
  have : n = 1 ∨ n = 2 ∨ n = 3 ∨ n = 4 := by omega
  rcases this with rfl | rfl | rfl | rfl <;> rfl
theorem word_le (n : Int) : (wordL n).length ≤ 6 := by unfold wordL; split <;> (try split) <;> (try split) <;> simp
abbrev prW (w1 : World) (vr vb : Value) : World := (((w1.alloc wdsC).alloc bldC).alloc (treC vr vb)).alloc (.cells #[.int .i64 0] 3)
theorem prW_at (w1 : World) (vr vb : Value) : (prW w1 vr vb).heap[w1.heap.size]? = some wdsC ∧ (prW w1 vr vb).heap[w1.heap.size + 1]? = some bldC ∧ (prW w1 vr vb).heap[w1.heap.size + 1 + 1]? = some (treC vr vb) ∧ (prW w1 vr vb).heap[w1.heap.size + 1 + 1 + 1]? = some (.cells #[.int .i64 0] 3) ∧ (prW w1 vr vb).heap.size = w1.heap.size + 4 ∧ Below w1.heap.size w1 (prW w1 vr vb) := by
  have hb1 : Below (w1.heap.size + 1) (w1.alloc wdsC) (prW w1 vr vb) := (((Below.refl _ _).alloc (by simp) _).alloc (by simp) _).alloc (by simp) _
  have hb2 : Below (w1.heap.size + 1 + 1) ((w1.alloc wdsC).alloc bldC) (prW w1 vr vb) := ((Below.refl _ _).alloc (by simp) _).alloc (by simp) _
  have hb3 : Below (w1.heap.size + 1 + 1 + 1) (((w1.alloc wdsC).alloc bldC).alloc (treC vr vb)) (prW w1 vr vb) := (Below.refl _ _).alloc (by simp) _
  have s1 : (w1.alloc wdsC).heap.size = w1.heap.size + 1 := by simp
  have s2 : ((w1.alloc wdsC).alloc bldC).heap.size = w1.heap.size + 1 + 1 := by simp
  have s3 : (((w1.alloc wdsC).alloc bldC).alloc (treC vr vb)).heap.size = w1.heap.size + 1 + 1 + 1 := by simp
  refine ⟨(hb1.block _ (by omega)).trans (heap_newT _ _), ?_, ?_, ?_, by simp, ((((Below.refl _ _).alloc (Nat.le_refl _) _).alloc (by simp) _).alloc (by simp; omega) _).alloc (by simp; omega) _⟩
  · have := heap_newT (w1.alloc wdsC) bldC
    rw [s1] at this
    exact (hb2.block _ (by omega)).trans this
  · have := heap_newT ((w1.alloc wdsC).alloc bldC) (treC vr vb)
    rw [s2] at this
    exact (hb3.block _ (by omega)).trans this
  · have := heap_newT (((w1.alloc wdsC).alloc bldC).alloc (treC vr vb)) (.cells #[.int .i64 0] 3)
    rw [s3] at this
    exact this
/-- the line of a unit in the outline -/
def lnX {t : Tre} (x : PX t 0) : List UInt8 := outL (unitO t.brs x.1.1) x.1.2
theorem name_le {s : ByteArray} (h : nameB s = true) : s.size ≤ 64 := by
  unfold nameB at h
  simp only [Bool.and_eq_true, decide_eq_true_eq] at h
  omega
theorem mark_le {s : ByteArray} (h : markB s = true) : s.size ≤ 64 := by
  unfold markB inB at h
  simp only [Bool.and_eq_true, decide_eq_true_eq] at h
  omega
theorem RightT.mark_le {t : Tre} (T : RightT t) {b : Brn} (hb : b ∈ t.brs) : b.mark.size ≤ 64 := by
  by_cases h : b.mark = ⟨#[]⟩
  · rw [h]; decide
  · exact Go.Proofs.YthbccfchjgihgaaGreatDoor.mark_le ((T.name b hb).2 h)
theorem RightT.ln_le {t : Tre} (T : RightT t) (x : PX t 0) : (lnX x).length ≤ 300 := by
  obtain ⟨⟨i, n⟩, c, hc, hci, hca⟩ := x
  simp only at hci hca
  subst hci
  have hd := (T.upIs hc).2
  have hp := T.pos c hc
  have ht := name_le (T.name c hc).1
  have hm := T.mark_le hc
  have h1 := Lib.itoa_length_le c.id (by omega) (by omega)
  have h2 := word_le c.level
  have h3 : (markL c).length ≤ 67 := by
    unfold markL
    split
    · simp
    · simp only [List.length_append, List.length_cons, List.length_nil, Array.length_toList]
      have : c.mark.data.size = c.mark.size := rfl
      omega
  unfold lnX
  show (outL (unitO t.brs c.id) n).length ≤ 300
  rw [T.unit_of hc, out_len]
  unfold bodyL
  simp only [List.length_append, List.length_cons, List.length_nil, Array.length_toList]
  have : c.title.data.size = c.title.size := rfl
  omega
theorem RightT.lns_le {t : Tre} (T : RightT t) : ∀ xs : List (PX t 0), (xs.flatMap lnX).length ≤ 300 * xs.length
  | [] => by simp
  | x :: xs => by
    have := T.lns_le xs
    have := T.ln_le x
    simp only [List.flatMap_cons, List.length_append, List.length_cons]
    omega
abbrev unL (c : Brn) (lv : Nat) : Obj := .cells #[.int .i64 c.id, .int .i64 c.parent, .int .i64 (lv : Int), .string c.title, .string c.mark] 35
theorem line_cells (P : List UInt8) (rp im wd ti : ByteArray) : Lib.byteCells P ++ Lib.strCells (rp ++ im ++ ⟨#[32]⟩ ++ wd ++ ⟨#[32]⟩ ++ ti) ++ [.int .u8 10] = Lib.byteCells (P ++ (rp.data.toList ++ im.data.toList ++ [32] ++ wd.data.toList ++ [32] ++ ti.data.toList) ++ [10]) := by
  rw [Lib.strCells_eq]
  simp [Lib.byteCells]
theorem line_cells2 (P : List UInt8) (rp im wd ti mk : ByteArray) : Lib.byteCells P ++ Lib.strCells (rp ++ im ++ ⟨#[32]⟩ ++ wd ++ ⟨#[32]⟩ ++ ti) ++ Lib.strCells (⟨#[32, 91]⟩ ++ mk ++ ⟨#[93]⟩) ++ [.int .u8 10] = Lib.byteCells (P ++ (rp.data.toList ++ im.data.toList ++ [32] ++ wd.data.toList ++ [32] ++ ti.data.toList) ++ (([32, 91] ++ mk.data.toList ++ [93]) ++ [10])) := by
  rw [Lib.strCells_eq, Lib.strCells_eq]
  simp [Lib.byteCells]
theorem line_tail {rp im wd : ByteArray} {a b d ti mk P L : List UInt8} (h1 : rp.data.toList = a) (h2 : im.data.toList = b) (h3 : wd.data.toList = d) (h : L = P ++ (a ++ (b ++ [32] ++ d ++ [32] ++ ti ++ mk) ++ [10])) : L = P ++ (rp.data.toList ++ im.data.toList ++ [32] ++ wd.data.toList ++ [32] ++ ti) ++ (mk ++ [10]) := by
  rw [h, h1, h2, h3]
  simp
theorem line_none (P Q : List UInt8) : P ++ Q ++ ([] ++ [10]) = P ++ Q ++ [10] := by simp
/-- what the rounds of Print have in memory -/
structure PSt (w w1 : World) (vr vb : Value) (W : World) : Prop where
  sane : Sane (w1.heap.size + 1) fB W
  tree : Kept qB (w1.heap.size + 1) fB w.heap.size #[vr, vb] 25 W
  words : Kept qB (w1.heap.size + 1) fB w1.heap.size #[.string ⟨#[]⟩, .string ⟨#[102, 111, 110, 100, 115]⟩, .string ⟨#[115, 101, 114, 105, 101, 115]⟩, .string ⟨#[102, 105, 108, 101]⟩, .string ⟨#[105, 116, 101, 109]⟩] 90 W
theorem PSt.rnd {w w1 : World} {vr vb : Value} {n : Nat} {W W' : World} (h : PSt w w1 vr vb W) (k : Rnd (w1.heap.size + 1) n W W') : PSt w w1 vr vb W' :=
  ⟨k.kp.sane h.sane, h.tree.kp h.sane k.kp, h.words.kp h.sane k.kp⟩
theorem pst_own {t : Tre} (w w1 : World) (vr vb : Value) : Own (fun (_ : List (PX t 0)) W => PSt w w1 vr vb W) := by
  rintro s W W' row ⟨h1, h2, h3⟩ hg hr
  have hs := sameC_grown hg hr
  exact ⟨⟨Nat.lt_of_lt_of_le h1.1 hg.size, fun k hk => by cases hk⟩, ⟨(hs _ _ h2.1 rfl).trans h2.1, ⟨Nat.lt_of_lt_of_le h2.2.1.1 hg.size, h2.2.1.2.1, by simp⟩, h2.2.2⟩, ⟨(hs _ _ h3.1 rfl).trans h3.1, ⟨Nat.lt_of_lt_of_le h3.2.1.1 hg.size, h3.2.1.2.1, by simp⟩, h3.2.2⟩⟩
set_option maxRecDepth 100000 in
set_option maxHeartbeats 8000000 in
theorem print_c (t : Tre) (hz : SizT t) (vr vb : Value) (w : World) (B : Nat) (hB : B ≤ w.heap.size) (h : TreRep w B t vr vb) (hV : VarOk w) :
    Calls Tryz.prog 35 #[treV vr vb] w fun e w' => e = .returned (.tuple #[.string ⟨(printT t).toArray⟩, .int .i64 (printE t)]) ∧ Below w.heap.size w w' := by
  have b1 := tre_new w vr vb
  have HO := Lib.hid (right_c t hz vr vb _ B (Nat.le_trans hB b1.size) (h.below (b1.mono hB)) (hV.below b1))
  have KC := Lib.hid (fun (W : World) (hW : Below (w.heap.size + 1) (w.alloc (treC vr vb)) W) => treW_at hW)
  have HT := Lib.hid (fun (W : World) (hW : Below w.heap.size w W) => (⟨Nat.le_trans hB hW.size, h.below (hW.mono hB), hV.below hW⟩ : B ≤ W.heap.size ∧ TreRep W B t vr vb ∧ VarOk W))
  obtain ⟨Ar, cr, rfl, -⟩ := id h.tops
  obtain ⟨A, ca, rfl, -⟩ := id h.brs
  have hs1 : (w.alloc (treC (.slice Ar t.roots.length cr) (.slice A t.brs.length ca))).heap.size = w.heap.size + 1 := by simp
  cases hr : rightT t
  · have HX := Lib.hid (show printT t = [] ∧ printE t = 1 by unfold printT printE; rw [hr]; exact ⟨rfl, rfl⟩)
    rw [hr] at HO
    clear hr
    rw [HX.out.1, HX.out.2]
    go_enter Tryz.func35, Tryz.ntmps35
    go_wp2_with fail
    refine HO.out.mono ?_
    rintro e w1 ⟨rfl, hb1⟩
    go_wp2
    go_ret2
    exact ⟨rfl, b1.trans (hb1.mono b1.size)⟩
  · have HX := Lib.hid (show printT t = ((preT t 0).flatMap fun p => outL (unitO t.brs p.1) p.2) ∧ printE t = 0 by unfold printT printE; rw [hr]; exact ⟨rfl, rfl⟩)
    have T := right_of hr
    rw [hr] at HO
    clear hr
    rw [HX.out.2]
    refine (callsIn_wide (n := 6)).1 ?_
    refine callsIn_of_wp_marks Tryz.func35 rfl trivial ?_ rfl
    simp only [Tryz.ntmps35, List.size_toArray, List.length_cons, List.length_nil, Nat.reduceAdd, Nat.reduceSub, Array.replicate_succ, Array.replicate_zero, List.push_toArray, List.append_toArray, List.nil_append, List.cons_append]
    gi_wp2_with fail
    refine ⟨trivial, ?_⟩
    refine (callsIn_wide.2 HO.out).mono ?_
    rintro e w1 ⟨rfl, hb1⟩
    have hb := bnd_call (Below.refl (w.heap.size + 1) _) (Nat.le_of_eq hs1.symm) hb1
    obtain ⟨z0, z1, zl⟩ := KC.out _ hb
    have hbw := b1.trans (hb.mono (Nat.le_succ _))
    gi_wp2_with fail
    refine ⟨trivial, ?_⟩
    refine (callsIn_wide.2 (walk_c _ _ _ _)).mono ?_
    rintro e w2 ⟨rfl, rfl⟩
    gi_wp2_with fail
    obtain ⟨hW0, hW1, hW2, hW3, hzW, hbW⟩ := prW_at w1 (.slice Ar t.roots.length cr) (.slice A t.brs.length ca)
    have hws : w.heap.size + 1 ≤ w1.heap.size := by have := hb.size; simp at this; omega
    have hB0 : Below w.heap.size w (prW w1 (.slice Ar t.roots.length cr) (.slice A t.brs.length ca)) := hbw.trans (hbW.mono hbw.size)
    have hWt : (prW w1 (.slice Ar t.roots.length cr) (.slice A t.brs.length ca)).heap[w.heap.size]? = some (treC (.slice Ar t.roots.length cr) (.slice A t.brs.length ca)) := (hbW.block _ (by omega)).trans ((hb.block _ (by omega)).trans (heap_newT _ _))
    have hsn : Sane (w1.heap.size + 1) fB (prW w1 (.slice Ar t.roots.length cr) (.slice A t.brs.length ca)) := ⟨by omega, fun k hk => by cases hk⟩
    have hP0 : PSt w w1 (.slice Ar t.roots.length cr) (.slice A t.brs.length ca) (prW w1 (.slice Ar t.roots.length cr) (.slice A t.brs.length ca)) :=
      ⟨hsn, ⟨hWt, ⟨by omega, by omega, by simp⟩, by decide⟩, ⟨hW0, ⟨by omega, by omega, by simp⟩, by decide⟩⟩
    have hBd0 : Bld w.heap.size (w1.heap.size + 1) (Lib.byteCells []) (prW w1 (.slice Ar t.roots.length cr) (.slice A t.brs.length ca)) := .inl ⟨by omega, .slice none 0 0, hW1, ⟨by simp [Lib.byteCells], .inl ⟨rfl, rfl⟩⟩, by simp [Value.ownBlock]⟩
    have HPL := Lib.hid (Nat.le_trans (T.pre_len (.inl rfl)) hz.brs)
    have HLN := Lib.hid (fun xs : List (PX t 0) => T.lns_le xs)
    refine wpIn_rangeFunc_ownH rfl (by decide) (gf := 99) (lb := #[.pointer (some ⟨w1.heap.size + 1 + 1, 0, none⟩), .pointer (some ⟨w1.heap.size + 1 + 1 + 1, 0, none⟩)]) rfl trivial (enters_of Tryz.func99 (by kernel_rfl) rfl)
      (walk_stops (q := qB) (g := w1.heap.size + 1) (f := fB) (n := w.heap.size) (B := B) (by decide) (by decide) hz T hB (by omega) 0 0 (.inl ⟨rfl, rfl⟩) (w1.heap.size + 1 + 1 + 1) (prW w1 (.slice Ar t.roots.length cr) (.slice A t.brs.length ca)) hsn ⟨hW2, ⟨by omega, by omega, by simp⟩, by decide⟩ ⟨hW3, ⟨by omega, by omega, by simp⟩, by decide⟩ (HT.out _ hB0).2.1 _)
      Kp.trans (Kp.put hB0.size hsn.1) (Below.refl _ _) (fun _ => rfl)
      (fun pre W => Bld w.heap.size (w1.heap.size + 1) (Lib.byteCells (pre.flatMap lnX)) W ∧ Below w.heap.size w W ∧ PSt w w1 (.slice Ar t.roots.length cr) (.slice A t.brs.length ca) W)
      (fun _ _ _ => False)
      (OwnFrom.and (Own.from (fun s W W' row h1 hg hr => h1.same (sameC_grown hg hr)) _) (OwnFrom.and (ownFrom_below (Nat.le_refl _) hB0.size) (Own.from (pst_own _ _ _ _) _)))
      (fun _ _ _ _ _ hs _ _ => hs)
      ⟨hBd0, hB0, hP0⟩
      (fun x a' _ => a' = { tmps := #[treV (.slice Ar t.roots.length cr) (.slice A t.brs.length ca), .pointer (some ⟨w.heap.size, 0, none⟩), .string ⟨#[]⟩, .int .i64 0, .pointer (some ⟨w1.heap.size, 0, none⟩), .pointer (some ⟨w1.heap.size + 1, 0, none⟩), .int .i64 x.1.1, .int .i64 (x.1.2 : Int), undef, undef, .agg #[.slice Ar t.roots.length cr, .slice A t.brs.length ca], .bool true, .bool false, .agg #[.string ⟨#[]⟩, .string ⟨#[102, 111, 110, 100, 115]⟩, .string ⟨#[115, 101, 114, 105, 101, 115]⟩, .string ⟨#[102, 105, 108, 101]⟩, .string ⟨#[105, 116, 101, 109]⟩], .agg #[.slice Ar t.roots.length cr, .slice A t.brs.length ca], .func (.func 99) #[] #[.pointer (some ⟨w1.heap.size + 1 + 1, 0, none⟩), .pointer (some ⟨w1.heap.size + 1 + 1 + 1, 0, none⟩)], .int .i64 x.1.1, .int .i64 (x.1.2 : Int), undef, undef, undef, undef, undef, undef, undef, undef, undef, undef, undef, undef, undef, undef, undef, undef, undef, undef, undef, undef, undef, undef, undef, undef, undef, undef, undef, undef, undef, undef, undef, undef], defers := [] })
      ?hax ?assign ?body ?done ?stop
    case hax =>
      rintro x a' _ W W' row h3 hg hr
      exact h3
    case assign =>
      rintro l pre x W K ⟨hBd, hB1, hP⟩ hK
      gi_wp2
      exact hK _ _ ((KeepsOthers.refl _).from _) (Kp.refl _) ⟨hBd, hB1, hP⟩ rfl
    case body =>
      rintro l pre x a' W hl hr ⟨hBd, hB1, hP⟩ rfl hlt
      obtain ⟨⟨xi, xa⟩, c, hc, hci, hca⟩ := x
      simp only at hci hca
      subst hci
      have hd := (T.upIs hc).2
      have hp := T.pos c hc
      have hnm := name_le (T.name c hc).1
      have hmk := T.mark_le hc
      have hfu : findU t.brs c.id = (c, true) := by unfold findU; rw [T.find hc]
      obtain ⟨lv, hlv, hl1, hl4⟩ : ∃ lv : Nat, c.level = (lv : Int) ∧ 1 ≤ lv ∧ lv ≤ 4 := ⟨c.level.toNat, by omega, by omega, by omega⟩
      have hdep : depN t.brs c.id = xa + 1 := by omega
      have hLX : lnX (⟨(c.id, xa), c, hc, rfl, hca⟩ : PX t 0) = List.replicate (2 * xa) 32 ++ (Lib.itoa c.id ++ [32] ++ wordL lv ++ [32] ++ c.title.data.toList ++ markL c) ++ [10] := by
        show outL (unitO t.brs c.id) xa = _
        rw [T.unit_of hc, ← hlv]
        rfl
      have hSN : (pre ++ [(⟨(c.id, xa), c, hc, rfl, hca⟩ : PX t 0)]).flatMap lnX = pre.flatMap lnX ++ lnX (⟨(c.id, xa), c, hc, rfl, hca⟩ : PX t 0) := by rw [List.flatMap_append]; simp
      rw [hLX] at hSN
      have HSN := Lib.hid hSN
      have hpl : (pre.flatMap lnX).length ≤ 300 * 100000 := Nat.le_trans (HLN.out pre) (Nat.mul_le_mul_left 300 (by have := HPL.out; omega))
      generalize (pre ++ [(⟨(c.id, xa), c, hc, rfl, hca⟩ : PX t 0)]) = PN at *
      clear hLX hSN
      have HF := Lib.hid (find_c t c.id _ _ W B (HT.out _ hB1).1 (HT.out _ hB1).2.1)
      rw [hfu] at HF
      have zt0 : W.cell? ⟨w.heap.size, 0, none⟩ = some (.slice Ar t.roots.length cr) := hP.tree.cell
      have zt1 : W.cell? ⟨w.heap.size, 1, none⟩ = some (.slice A t.brs.length ca) := by rw [Lib.cell_of_heap hP.tree.1]; rfl
      have ztl := hP.tree.lt
      have hWl := hB1.size
      clear z0 z1 zl hfu hW0 hW1 hW2 hW3 hzW hbW hWt hsn hP0 hBd0
      gi_wp2_with fail
      refine ⟨trivial, ?_⟩
      refine (CallsIn.inRound l (callsIn_wide.2 HF.out)).mono ?_
      rintro e W2 ⟨rfl, hb2⟩
      clear zt0 zt1 ztl
      have hb3 : Below W.heap.size W (W2.alloc (unL c lv)) := hb2.alloc hb2.size _
      have R3 : Rnd (w1.heap.size + 1) w.heap.size W (W2.alloc (unL c lv)) := Rnd.of_below hWl hb3
      have hP3 := hP.rnd R3
      have HLV := Lib.hid (fun (W' : World) (hW' : Below (W2.alloc (unL c lv)).heap.size (W2.alloc (unL c lv)) W') => (⟨(hBd.below hb3).below hW', hB1.trans ((hb3.mono hWl).trans (hW'.mono (by have := hb3.size; omega))), R3.trans (Rnd.of_below (by have := hb3.size; omega) hW'), (HT.out _ (hB1.trans ((hb3.mono hWl).trans (hW'.mono (by have := hb3.size; omega))))).2.2, (hW'.block W2.heap.size (by simp)).trans (heap_newT W2 (unL c lv))⟩ :
        Bld w.heap.size (w1.heap.size + 1) (Lib.byteCells (pre.flatMap lnX)) W' ∧ Below w.heap.size w W' ∧ Rnd (w1.heap.size + 1) w.heap.size W W' ∧ VarOk W' ∧ W'.heap[W2.heap.size]? = some (unL c lv)))
      have KEEP := Lib.hid (fun (W' : World) (hW' : Below (W2.alloc (unL c lv)).heap.size (W2.alloc (unL c lv)) W') => (by
        have hu := (hW'.block W2.heap.size (by simp)).trans (heap_newT W2 (unL c lv))
        have hw' := (hW'.block _ hP3.words.lt).trans hP3.words.1
        exact ⟨by rw [Lib.cell_of_heap hu]; rfl, by rw [Lib.cell_of_heap hu]; rfl, wds_at hw' hl1 hl4⟩ :
        W'.cell? ⟨W2.heap.size, 2, none⟩ = some (.int .i64 (lv : Int)) ∧ W'.cell? ⟨W2.heap.size, 3, none⟩ = some (.string c.title) ∧ W'.cell? ⟨w1.heap.size, lv, none⟩ = some (.string (wordS lv))))
      obtain ⟨z2, z3, z4⟩ := KEEP.out _ (Below.refl _ _)
      have hub : W2.heap.size ≠ w1.heap.size + 1 := by have := hP.sane.1; have := hb2.size; omega
      have hbX : Below (W2.alloc (unL c lv)).heap.size (W2.alloc (unL c lv)) (W2.alloc (unL c lv)).drew := (Below.refl _ _).drew
      have hlk : (lv : Int) < 5 := by omega
      have hlk0 : lv < 5 := by omega
      obtain ⟨rp, hrp⟩ : ∃ rp : ByteArray, rp = ⟨(Lib.repeatL [32, 32] xa).toArray⟩ := ⟨_, rfl⟩
      obtain ⟨im, him⟩ : ∃ im : ByteArray, im = ⟨(Lib.itoa c.id).toArray⟩ := ⟨_, rfl⟩
      obtain ⟨wd, hwd⟩ : ∃ wd : ByteArray, wd = wordS lv := ⟨_, rfl⟩
      have HRPL := Lib.hid (show rp.data.toList = List.replicate (2 * xa) 32 by rw [hrp, ← blanks])
      have HIML := Lib.hid (show im.data.toList = Lib.itoa c.id by rw [him])
      have HWDL := Lib.hid (show wd.data.toList = wordL lv by rw [hwd]; rfl)
      have HRP := Lib.hid (fun (W' : World) => (by
        have := Tryz.strings_Repeat ⟨#[32, 32]⟩ xa W' (by omega) (by show 2 * xa ≤ _; omega)
        rw [hrp]
        exact this : Calls Tryz.prog 75 #[.string ⟨#[32, 32]⟩, .int .i64 xa] W' fun e w' => e = .returned (.string rp) ∧ Below W'.heap.size W' w'))
      have HIM := Lib.hid (fun (W' : World) (hV' : VarOk W') => (by
        refine (Tryz.strconv_Itoa c.id (by omega) (by omega) W' hV'.tab).mono ?_
        rintro e w' ⟨rfl, h⟩
        exact ⟨by rw [him], below_of_grow h⟩ : Calls Tryz.prog 76 #[.int .i64 c.id] W' fun e w' => e = .returned (.string im) ∧ Below W'.heap.size W' w'))
      have hrs : rp.size ≤ 24 := by rw [bytes_size HRPL.out, List.length_replicate]; omega
      have his : im.size ≤ 21 := by rw [bytes_size HIML.out]; exact Lib.itoa_length_le c.id (by omega) (by omega)
      have hwl : wd.size ≤ 6 := by rw [bytes_size HWDL.out]; exact word_le _
      rw [← hwd] at z4 KEEP
      have HWD := Lib.hid hwd
      clear hrp him hwd
      have hs1 : (rp ++ im : ByteArray).size = rp.size + im.size := ByteArray.size_append
      have hs2 : (rp ++ im ++ ⟨#[32]⟩ : ByteArray).size = rp.size + im.size + 1 := by rw [ByteArray.size_append, hs1]; rfl
      have hs3 : (rp ++ im ++ ⟨#[32]⟩ ++ wd : ByteArray).size = rp.size + im.size + 1 + wd.size := by rw [ByteArray.size_append, hs2]
      have hs4 : (rp ++ im ++ ⟨#[32]⟩ ++ wd ++ ⟨#[32]⟩ : ByteArray).size = rp.size + im.size + 1 + wd.size + 1 := by rw [ByteArray.size_append, hs3]; rfl
      have hs5 : (rp ++ im ++ ⟨#[32]⟩ ++ wd ++ ⟨#[32]⟩ ++ c.title : ByteArray).size ≤ 200 := by rw [ByteArray.size_append, hs4]; omega
      have hq1 : ¬ 9223372036854775807 < rp.size + im.size := by omega
      have hq2 : ¬ 9223372036854775807 < rp.size + im.size + 1 := by omega
      have hq3 : ¬ 9223372036854775807 < rp.size + im.size + 1 + wd.size := by omega
      have hq4 : ¬ 9223372036854775807 < rp.size + im.size + 1 + wd.size + 1 := by omega
      have hq5 : ¬ 9223372036854775807 < rp.size + im.size + 1 + wd.size + 1 + c.title.size := by omega
      have HWS := Lib.hid (fun (W' : World) (hW' : Below (W2.alloc (unL c lv)).heap.size (W2.alloc (unL c lv)) W') => wstr3_c w.heap.size (w1.heap.size + 1) (Lib.byteCells (pre.flatMap lnX)) (rp ++ im ++ ⟨#[32]⟩ ++ wd ++ ⟨#[32]⟩ ++ c.title) W' (HLV.out W' hW').1 (by rw [Lib.byteCells_length]; omega) (HLV.out W' hW').2.1.size)
      have KEEP2 := Lib.hid (fun (W' W'' : World) (hW' : Below (W2.alloc (unL c lv)).heap.size (W2.alloc (unL c lv)) W') (hk : KeepB (w1.heap.size + 1) W' W'') => (by
        have hu := hk _ _ (fun e => hub (by rw [e])) (fun cs fl e => by cases e) ((hW'.block W2.heap.size (by simp)).trans (heap_newT W2 (unL c lv)))
        have hw' := hk _ _ (by omega) (fun cs fl e => by cases e) ((hW'.block _ hP3.words.lt).trans hP3.words.1)
        exact ⟨by rw [Lib.cell_of_heap hu]; rfl, by rw [Lib.cell_of_heap hu]; rfl, by rw [HWD.out]; exact wds_at hw' hl1 hl4⟩ :
        W''.cell? ⟨W2.heap.size, 2, none⟩ = some (.int .i64 (lv : Int)) ∧ W''.cell? ⟨W2.heap.size, 3, none⟩ = some (.string c.title) ∧ W''.cell? ⟨w1.heap.size, lv, none⟩ = some (.string wd)))
      have hpf := hP
      clear hd hp hnm hdep hBd hP hP3 hb2 z2 z3 z4
      have hmx : Tryz.prog.follows .mixedOrders = true := by kernel_rfl
      gi_wp2_with fail
      refine region_round (K := _) (S := fun W => W.cell? ⟨W2.heap.size, 2, none⟩ = some (.int .i64 (lv : Int)) ∧ W.cell? ⟨W2.heap.size, 3, none⟩ = some (.string c.title) ∧ W.cell? ⟨w1.heap.size, lv, none⟩ = some (.string wd)) hmx (by decide) (by with_reducible exact KEEP.out _ hbX) (fun hHeld0 => ?_) (fun _ _ h => h)
      refine wpAnyH_take (i := 0) (oi := { dst := some 24, op := Go.Op.move (Go.Operand.tmp 7), type := 3, pos := "tree.go:289", after := #[], guard := none }) (v := ?_) rfl (by kernel_rfl) (by kernel_rfl) (by kernel_rfl) (fun _ _ _ h => only_panic h) (Or.inl ⟨by rfl, ?_⟩) hHeld0 ?_
      rotate_left
      · intro w hSw
        (try dsimp only at hSw)
        go_simp
        (try with_reducible rfl)
      (try simp only [Act.put, List.setIfInBounds_toArray, List.set_cons_zero, List.set_cons_succ])
      refine wpAnyH_take (i := 2) (oi := { dst := some 26, op := Go.Op.move (Go.Operand.tmp 6), type := 3, pos := "tree.go:289", after := #[], guard := none }) (v := ?_) rfl (by kernel_rfl) (by kernel_rfl) (by kernel_rfl) (fun _ _ _ h => only_panic h) (Or.inl ⟨by rfl, ?_⟩) hHeld0 ?_
      rotate_left
      · intro w hSw
        (try dsimp only at hSw)
        go_simp
        (try with_reducible rfl)
      (try simp only [Act.put, List.setIfInBounds_toArray, List.set_cons_zero, List.set_cons_succ])
      refine wpAnyH_take (i := 6) (oi := { dst := some 30, op := Go.Op.fieldAddr 35 (Go.Operand.tmp 8) 2, type := 0, pos := "tree.go:289", after := #[], guard := none }) (v := ?_) rfl (by kernel_rfl) (by kernel_rfl) (by kernel_rfl) (fun _ _ _ h => only_panic h) (Or.inl ⟨by rfl, ?_⟩) hHeld0 ?_
      rotate_left
      · intro w hSw
        (try dsimp only at hSw)
        go_simp
        (try with_reducible rfl)
      (try simp only [Act.put, List.setIfInBounds_toArray, List.set_cons_zero, List.set_cons_succ])
      refine wpAnyH_take (i := 7) (oi := { dst := some 31, op := Go.Op.load 3 (Go.Operand.tmp 30), type := 3, pos := "tree.go:289", after := #[{ on := 6, ground := Go.Ground.data }], guard := none }) (v := ?_) rfl (by kernel_rfl) (by kernel_rfl) (by kernel_rfl) (fun _ _ _ h => only_panic h) (Or.inl ⟨by rfl, ?_⟩) hHeld0 ?_
      rotate_left
      · intro w hSw
        (try dsimp only at hSw)
        go_simp
        (try with_reducible rfl)
      (try simp only [Act.put, List.setIfInBounds_toArray, List.set_cons_zero, List.set_cons_succ])
      refine wpAnyH_take (i := 8) (oi := { dst := some 32, op := Go.Op.indexAddr 90 (Go.Operand.tmp 4) (Go.Operand.tmp 31), type := 0, pos := "tree.go:289", after := #[{ on := 7, ground := Go.Ground.data }], guard := none }) (v := ?_) rfl (by kernel_rfl) (by kernel_rfl) (by kernel_rfl) (fun _ _ _ h => only_panic h) (Or.inl ⟨by rfl, ?_⟩) hHeld0 ?_
      rotate_left
      · intro w hSw
        (try dsimp only at hSw)
        go_simp
        (try with_reducible rfl)
      (try simp only [Act.put, List.setIfInBounds_toArray, List.set_cons_zero, List.set_cons_succ])
      refine wpAnyH_take (i := 9) (oi := { dst := some 33, op := Go.Op.load 9 (Go.Operand.tmp 32), type := 9, pos := "tree.go:289", after := #[{ on := 8, ground := Go.Ground.data }], guard := none }) (v := ?_) rfl (by kernel_rfl) (by kernel_rfl) (by kernel_rfl) (fun _ _ _ h => only_panic h) (Or.inl ⟨by rfl, ?_⟩) hHeld0 ?_
      rotate_left
      · intro w hSw
        (try dsimp only at hSw)
        go_simp
        (try with_reducible rfl)
      (try simp only [Act.put, List.setIfInBounds_toArray, List.set_cons_zero, List.set_cons_succ])
      refine wpAnyH_take (i := 12) (oi := { dst := some 36, op := Go.Op.fieldAddr 35 (Go.Operand.tmp 8) 3, type := 0, pos := "tree.go:289", after := #[], guard := none }) (v := ?_) rfl (by kernel_rfl) (by kernel_rfl) (by kernel_rfl) (fun _ _ _ h => only_panic h) (Or.inl ⟨by rfl, ?_⟩) hHeld0 ?_
      rotate_left
      · intro w hSw
        (try dsimp only at hSw)
        go_simp
        (try with_reducible rfl)
      (try simp only [Act.put, List.setIfInBounds_toArray, List.set_cons_zero, List.set_cons_succ])
      refine wpAnyH_take (i := 13) (oi := { dst := some 37, op := Go.Op.load 9 (Go.Operand.tmp 36), type := 9, pos := "tree.go:289", after := #[{ on := 12, ground := Go.Ground.data }], guard := none }) (v := ?_) rfl (by kernel_rfl) (by kernel_rfl) (by kernel_rfl) (fun _ _ _ h => only_panic h) (Or.inl ⟨by rfl, ?_⟩) hHeld0 ?_
      rotate_left
      · intro w hSw
        (try dsimp only at hSw)
        go_simp
        (try with_reducible rfl)
      (try simp only [Act.put, List.setIfInBounds_toArray, List.set_cons_zero, List.set_cons_succ])
      refine wpAnyH_ready (rs := [1]) (by kernel_rfl) (by simp) ?_
      refine AllReadyH.cons (o := { dst := some 25, op := Go.Op.call { callee := Go.Callee.value (Go.Operand.func 75), args := #[Go.Operand.const (Go.Value.string { data := #[32, 32] }), Go.Operand.tmp 24], argTypes := #[9, 3] }, type := 9, pos := "tree.go:289", after := #[{ on := 0, ground := Go.Ground.data }], guard := none }) rfl (fun K hK => ?_) AllReadyH.nil
      go_simp
      (go_at_call 75; (with_reducible refine (HRP.out _).mono ?_); rintro e w4 ⟨rfl, hb4⟩; have hbX := hbX.trans (hb4.mono hbX.size))
      go_wp2_with fail
      refine hK.out _ _ (by first | with_reducible exact KEEP.out _ hbX | with_reducible exact KEEP2.out _ _ hbX hk6) (fun hHeld1 => ?_)
      clear hK K hHeld0
      (try simp only [Act.put, List.setIfInBounds_toArray, List.set_cons_zero, List.set_cons_succ])
      refine wpAnyH_ready (rs := [3]) (by kernel_rfl) (by simp) ?_
      refine AllReadyH.cons (o := { dst := some 27, op := Go.Op.call { callee := Go.Callee.value (Go.Operand.func 76), args := #[Go.Operand.tmp 26], argTypes := #[3] }, type := 9, pos := "tree.go:289", after := #[{ on := 2, ground := Go.Ground.data }, { on := 1, ground := Go.Ground.chain }], guard := none }) rfl (fun K hK => ?_) AllReadyH.nil
      go_simp
      (go_at_call 76; (with_reducible refine (HIM.out _ (HLV.out _ hbX).2.2.2.1).mono ?_); rintro e w5 ⟨rfl, hb5⟩; have hbX := hbX.trans (hb5.mono hbX.size))
      go_wp2_with fail
      refine hK.out _ _ (by first | with_reducible exact KEEP.out _ hbX | with_reducible exact KEEP2.out _ _ hbX hk6) (fun hHeld2 => ?_)
      clear hK K hHeld1
      (try simp only [Act.put, List.setIfInBounds_toArray, List.set_cons_zero, List.set_cons_succ])
      refine wpAnyH_take (i := 4) (oi := { dst := some 28, op := Go.Op.binOp Go.BinOp.add 9 (Go.Operand.tmp 25) (Go.Operand.tmp 27) 9, type := 9, pos := "tree.go:289", after := #[{ on := 1, ground := Go.Ground.data }, { on := 3, ground := Go.Ground.data }], guard := none }) (v := ?_) rfl (by kernel_rfl) (by kernel_rfl) (by kernel_rfl) (fun _ _ _ h => only_panic h) (Or.inl ⟨by rfl, ?_⟩) hHeld2 ?_
      rotate_left
      · intro w hSw
        (try dsimp only at hSw)
        go_simp
        (try with_reducible rfl)
      (try simp only [Act.put, List.setIfInBounds_toArray, List.set_cons_zero, List.set_cons_succ])
      refine wpAnyH_take (i := 5) (oi := { dst := some 29, op := Go.Op.binOp Go.BinOp.add 9 (Go.Operand.tmp 28) (Go.Operand.const (Go.Value.string { data := #[32] })) 9, type := 9, pos := "tree.go:289", after := #[{ on := 4, ground := Go.Ground.data }], guard := none }) (v := ?_) rfl (by kernel_rfl) (by kernel_rfl) (by kernel_rfl) (fun _ _ _ h => only_panic h) (Or.inl ⟨by rfl, ?_⟩) hHeld2 ?_
      rotate_left
      · intro w hSw
        (try dsimp only at hSw)
        go_simp
        (try with_reducible rfl)
      (try simp only [Act.put, List.setIfInBounds_toArray, List.set_cons_zero, List.set_cons_succ])
      refine wpAnyH_take (i := 10) (oi := { dst := some 34, op := Go.Op.binOp Go.BinOp.add 9 (Go.Operand.tmp 29) (Go.Operand.tmp 33) 9, type := 9, pos := "tree.go:289", after := #[{ on := 5, ground := Go.Ground.data }, { on := 9, ground := Go.Ground.data }], guard := none }) (v := ?_) rfl (by kernel_rfl) (by kernel_rfl) (by kernel_rfl) (fun _ _ _ h => only_panic h) (Or.inl ⟨by rfl, ?_⟩) hHeld2 ?_
      rotate_left
      · intro w hSw
        (try dsimp only at hSw)
        go_simp
        (try with_reducible rfl)
      (try simp only [Act.put, List.setIfInBounds_toArray, List.set_cons_zero, List.set_cons_succ])
      refine wpAnyH_take (i := 11) (oi := { dst := some 35, op := Go.Op.binOp Go.BinOp.add 9 (Go.Operand.tmp 34) (Go.Operand.const (Go.Value.string { data := #[32] })) 9, type := 9, pos := "tree.go:289", after := #[{ on := 10, ground := Go.Ground.data }], guard := none }) (v := ?_) rfl (by kernel_rfl) (by kernel_rfl) (by kernel_rfl) (fun _ _ _ h => only_panic h) (Or.inl ⟨by rfl, ?_⟩) hHeld2 ?_
      rotate_left
      · intro w hSw
        (try dsimp only at hSw)
        go_simp
        (try with_reducible rfl)
      (try simp only [Act.put, List.setIfInBounds_toArray, List.set_cons_zero, List.set_cons_succ])
      refine wpAnyH_take (i := 14) (oi := { dst := some 38, op := Go.Op.binOp Go.BinOp.add 9 (Go.Operand.tmp 35) (Go.Operand.tmp 37) 9, type := 9, pos := "tree.go:289", after := #[{ on := 11, ground := Go.Ground.data }, { on := 13, ground := Go.Ground.data }], guard := none }) (v := ?_) rfl (by kernel_rfl) (by kernel_rfl) (by kernel_rfl) (fun _ _ _ h => only_panic h) (Or.inl ⟨by rfl, ?_⟩) hHeld2 ?_
      rotate_left
      · intro w hSw
        (try dsimp only at hSw)
        go_simp
        (try with_reducible rfl)
      (try simp only [Act.put, List.setIfInBounds_toArray, List.set_cons_zero, List.set_cons_succ])
      refine wpAnyH_ready (rs := [15]) (by kernel_rfl) (by simp) ?_
      refine AllReadyH.cons (o := { dst := some 39, op := Go.Op.call { callee := Go.Callee.value (Go.Operand.func 74), args := #[Go.Operand.tmp 5, Go.Operand.tmp 38], argTypes := #[94, 9] }, type := 97, pos := "tree.go:289", after := #[{ on := 14, ground := Go.Ground.data }, { on := 3, ground := Go.Ground.chain }], guard := none }) rfl (fun K hK => ?_) AllReadyH.nil
      go_simp
      (go_at_call 74; (with_reducible refine (HWS.out _ hbX).mono ?_); rintro e w6 ⟨rfl, hu6, hb6, hk6⟩)
      go_wp2_with fail
      refine hK.out _ _ (by first | with_reducible exact KEEP.out _ hbX | with_reducible exact KEEP2.out _ _ hbX hk6) (fun hHeld3 => ?_)
      clear hK K hHeld2
      (try simp only [Act.put, List.setIfInBounds_toArray, List.set_cons_zero, List.set_cons_succ])
      refine wpAnyH_done (by kernel_rfl) ?_ _
      refine ⟨rfl, ?_⟩
      have hLV := HLV.out _ hbX
      obtain ⟨pb, pv, hpb⟩ := hLV.1.cell
      have R6 := hLV.2.2.1.trans (Rnd.of_write hpb hb6 hk6)
      have hB6 := hLV.2.1.trans hb6
      have hu := hk6 _ _ (fun e => hub (by rw [e])) (fun cs fl e => by cases e) hLV.2.2.2.2
      have z4 : w6.cell? ⟨W2.heap.size, 4, none⟩ = some (.string c.mark) := by rw [Lib.cell_of_heap hu]; rfl
      have zl := heap_ltT hu
      have HCS := Lib.hid (line_cells (pre.flatMap lnX) rp im wd c.title)
      have HTL := Lib.hid (line_tail HRPL.out HIML.out HWDL.out HSN.out)
      have hbl6 : (Lib.byteCells (pre.flatMap lnX) ++ Lib.strCells (rp ++ im ++ ⟨#[32]⟩ ++ wd ++ ⟨#[32]⟩ ++ c.title)).length ≤ 140737488355328 - 1000 := by rw [List.length_append, Lib.byteCells_length, Lib.strCells_length]; omega
      have HPF := Lib.hid hpf
      clear hLV hpb hbX hb6 hk6 KEEP KEEP2 HWS HRP HIM hs1 hs2 hs3 hs4 hs5 hq1 hq2 hq3 hq4 hq5 hHeld3 hub hu
      by_cases hm : c.mark = ⟨#[]⟩
      · have hm1 : c.mark.toList.isEmpty = true := by rw [str_empty, hm]; rfl
        have HWB := Lib.hid (wbyte3_c w.heap.size (w1.heap.size + 1) _ 10 w6 (.inr hu6) (by omega) hB6.size)
        have hM0 : markL c = [] := by unfold markL; rw [if_pos hm]
        have HM := Lib.hid hM0
        clear hm hM0
        gi_wp2_with fail
        refine ⟨trivial, ?_⟩
        refine (CallsIn.inRound l (callsIn_wide.2 HWB.out)).mono ?_
        rintro e w7 ⟨rfl, hu7, hb7, hk7⟩
        obtain ⟨pb, pv, hpb⟩ := (show Bld w.heap.size (w1.heap.size + 1) _ w6 from .inr hu6).cell
        have R7 := R6.trans (Rnd.of_write hpb hb7 hk7)
        have hF7 : Bld w.heap.size (w1.heap.size + 1) (Lib.byteCells (PN.flatMap lnX)) w7 := by
          rw [HTL.out, HM.out, line_none]
          exact .inr (by rw [← HCS.out]; exact hu7)
        gi_wp2
        exact ⟨R7.ko.from _, R7.kp, hF7, hB6.trans hb7, HPF.out.rnd R7⟩
      · have hm1 : c.mark.toList.isEmpty = false := by
          rw [str_empty, decide_eq_false_iff_not]
          intro e
          exact hm (ByteArray.ext (Array.eq_empty_of_size_eq_zero e))
        have hq1 : ¬ 9223372036854775807 < 2 + c.mark.size := by omega
        have hq2 : ¬ 9223372036854775807 < 2 + c.mark.size + 1 := by omega
        have hms : (⟨#[32, 91]⟩ ++ c.mark ++ ⟨#[93]⟩ : ByteArray).size = 2 + c.mark.size + 1 := by rw [ByteArray.size_append, ByteArray.size_append]; rfl
        have HWS := Lib.hid (wstr3_c w.heap.size (w1.heap.size + 1) _ (⟨#[32, 91]⟩ ++ c.mark ++ ⟨#[93]⟩) w6 (.inr hu6) (by omega) hB6.size)
        have HWB := Lib.hid (fun (W' : World) (bs : List Value) (h1 : Bld w.heap.size (w1.heap.size + 1) bs W') (h2 : bs.length + 1 ≤ 140737488355328) (h3 : w.heap.size ≤ W'.heap.size) => wbyte3_c w.heap.size (w1.heap.size + 1) bs 10 W' h1 h2 h3)
        have hM0 : markL c = [32, 91] ++ c.mark.data.toList ++ [93] := by unfold markL; rw [if_neg hm]
        have HM := Lib.hid hM0
        have HC2 := Lib.hid (line_cells2 (pre.flatMap lnX) rp im wd c.title c.mark)
        have hl7 : (Lib.byteCells (pre.flatMap lnX) ++ Lib.strCells (rp ++ im ++ ⟨#[32]⟩ ++ wd ++ ⟨#[32]⟩ ++ c.title) ++ Lib.strCells (⟨#[32, 91]⟩ ++ c.mark ++ ⟨#[93]⟩)).length + 1 ≤ 140737488355328 := by rw [List.length_append, Lib.strCells_length (⟨#[32, 91]⟩ ++ c.mark ++ ⟨#[93]⟩)]; omega
        clear hm hM0 hms
        gi_wp2_with fail
        refine ⟨trivial, ?_⟩
        refine (CallsIn.inRound l (callsIn_wide.2 HWS.out)).mono ?_
        rintro e w7 ⟨rfl, hu7, hb7, hk7⟩
        obtain ⟨pb, pv, hpb⟩ := (show Bld w.heap.size (w1.heap.size + 1) _ w6 from .inr hu6).cell
        have R7 := R6.trans (Rnd.of_write hpb hb7 hk7)
        have hB7 := hB6.trans hb7
        have HB8 := Lib.hid (HWB.out w7 _ (.inr hu7) hl7 hB7.size)
        clear hpb
        gi_wp2_with fail
        refine ⟨trivial, ?_⟩
        refine (CallsIn.inRound l (callsIn_wide.2 HB8.out)).mono ?_
        rintro e w8 ⟨rfl, hu8, hb8, hk8⟩
        obtain ⟨pb, pv, hpb⟩ := (show Bld w.heap.size (w1.heap.size + 1) _ w7 from .inr hu7).cell
        have R8 := R7.trans (Rnd.of_write hpb hb8 hk8)
        have hF8 : Bld w.heap.size (w1.heap.size + 1) (Lib.byteCells (PN.flatMap lnX)) w8 := by
          rw [HTL.out, HM.out]
          exact .inr (by rw [← HC2.out]; exact hu8)
        gi_wp2
        exact ⟨R8.ko.from _, R8.kp, hF8, hB7.trans hb8, HPF.out.rnd R8⟩
    case done =>
      rintro D ys W hD hys ⟨hBd, hB1, hP⟩ hK
      have HE := Lib.hid (show ys.flatMap lnX = printT t by rw [HX.out.1, ← hys, List.flatMap_map]; rfl)
      clear hys
      have HST := Lib.hid (Tryz.Builder_String_any_k w.heap.size (w1.heap.size + 1) (ys.flatMap lnX) W (Lib.IsBuilderF.of hBd) hB1.size)
      rw [HE.out] at HST
      obtain ⟨pb, pv, hbk⟩ := hBd.cell
      have hDb : D ≠ w1.heap.size + 1 := fun e => by subst e; rw [hK] at hbk; cases hbk
      gi_wp2_with fail
      refine ⟨trivial, ?_⟩
      refine (callsIn_wide.2 HST.out).mono ?_
      rintro e w5 ⟨rfl, -, hb5, hk5⟩
      have hK5 : w5.heap[D]? = some (.deferred (some [])) := hk5 D _ hK (by simpa using hDb) (fun c fz e => by cases e)
      have hbD := belowK_b (w := w) (Nat.le_refl _) w5 D _ (.deferred none) (Nat.le_trans hB0.size hD) hK5 rfl rfl
      have hBF := (hB1.trans hb5).trans hbD
      clear hbk hk5 hb5 HE
      gi_wp2
      refine ⟨by simp, .inl ⟨_, _, rfl, run_takeDeferred hK5, ?_⟩⟩
      exact ⟨_, results_tmp2 rfl _ _ _, rfl, hBF⟩
    case stop =>
      rintro D c pre W _ _ h _
      exact h.elim
end Go.Proofs.YthbccfchjgihgaaGreatDoor
