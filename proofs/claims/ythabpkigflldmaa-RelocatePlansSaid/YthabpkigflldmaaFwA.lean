/- few: the guards of the laws; the rooms of the example. -/
import Derived.Test.YthabpkigflldmaaCpy
namespace Go.Proofs.Ythabpkigflldmaa
open Go.RowKit

def fewBx (bs : List Box) : Bool := (bs.all fun b => decide (b.cont.length ≤ 40)) && decide (bs.length ≤ 20)
def fewAll (ls : List Shelf) (bs : List Box) : Bool := decide (ls.length ≤ 20) && fewBx bs
def fewB (ls : List Shelf) (bs : List Box) : Bool := fewAll ls bs && (decide (sizeF ls.length bs.length ≤ 300) || decide (4096 < sizeF ls.length bs.length))
theorem few_ok {ls : List Shelf} {bs : List Box} (h : fewB ls bs = true) : ls.length ≤ 20 ∧ bs.length ≤ 20 ∧ ∀ b ∈ bs, b.cont.length ≤ 40 := by
  simp only [fewB, fewAll, fewBx, Bool.and_eq_true, decide_eq_true_eq, List.all_eq_true] at h
  exact ⟨h.1.1, h.1.2.2, h.1.2.1⟩
set_option maxHeartbeats 1000000 in
theorem few36_c (bs : List Box) (v : Value) (w : World) (B : Nat) (hB : B ≤ w.heap.size) (h : Boxes w B bs v) :
    Calls Try.prog 81 #[v] w fun e w' => e = .returned (.bool (fewBx bs)) ∧ Below w.heap.size w w' := by
  obtain ⟨A, c, rfl, hc1, hc2, _⟩ := id h
  have HN0 := Lib.hid (show (bs.all fun b => decide (b.cont.length ≤ 40)) = ((bs.drop 0).all fun b => decide (b.cont.length ≤ 40)) from rfl)
  go_enter Try.func81, Try.ntmps81
  go_wp2
  go_loopw [7] (fun i wr => ∃ k : Nat, k ≤ bs.length ∧ i = .int .i64 k ∧ Hid ((bs.all fun b => decide (b.cont.length ≤ 40)) = ((bs.drop k).all fun b => decide (b.cont.length ≤ 40))) ∧ Below w.heap.size w wr) (fun i _ => bs.length - (intOf i).toNat)
  case atStart => exact ⟨0, Nat.zero_le _, rfl, HN0, Below.refl _ _⟩
  case round =>
    clear HN0
    obtain ⟨k, hk, rfl, HN, hb⟩ := hrel
    have hs := hb.size
    by_cases hlt : k < bs.length
    · obtain ⟨x, hx⟩ := get_at bs hlt
      have HD := Lib.hid (drop_at hx)
      obtain ⟨b, off, vx, rfl, hbB, g0, g1, g2, g3, g4, hvx⟩ := Boxes.at_ (h.below boS (hb.mono hB)) hx
      obtain ⟨Ax, cx, rfl, -⟩ := id hvx
      have hbw : b < wr.heap.size := by omega
      clear hx
      by_cases hl : x.cont.length ≤ 40
      · have HE := Lib.hid (show (bs.all fun b => decide (b.cont.length ≤ 40)) = ((bs.drop (k + 1)).all fun b => decide (b.cont.length ≤ 40)) by rw [HN.out, HD.out]; simp [hl])
        have hi : ¬ (40 : Int) < (x.cont.length : Int) := by omega
        go_wp2
        go_roundw
        case rel => exact ⟨k + 1, by omega, by go_num, HE, hb.alloc hs _⟩
        case measure => simp [intOf]; omega
      · have HE := Lib.hid (show fewBx bs = false by rw [fewBx, HN.out, HD.out]; simp [hl])
        have hi : (40 : Int) < (x.cont.length : Int) := by omega
        go_wp2
        go_ret
        exact ⟨ret_bool HE.out.symm, hb.alloc hs _⟩
    · have HE := Lib.hid (show fewBx bs = decide (bs.length ≤ 20) by rw [fewBx, HN.out, List.drop_of_length_le (by omega)]; rfl)
      go_wp2
      go_ret
      exact ⟨ret_bool (by rw [HE.out, decide_eq_decide]; omega), hb⟩
set_option maxHeartbeats 1000000 in
theorem few37_c (ls : List Shelf) (bs : List Box) (vl vb : Value) (w : World) (B : Nat) (hB : B ≤ w.heap.size) (hl : Shelves w B ls vl) (h : Boxes w B bs vb) :
    Calls Try.prog 67 #[vl, vb, .slice none 0 0] w fun e w' => e = .returned (.bool (fewAll ls bs)) ∧ Below w.heap.size w w' := by
  have HF := Lib.hid (few36_c bs vb w B hB h)
  obtain ⟨A, c, rfl, hc1, hc2, _⟩ := id hl
  by_cases h20 : ls.length ≤ 20
  · have hi : (ls.length : Int) ≤ 20 := by omega
    cases hf : fewBx bs
    · have HE := Lib.hid (show fewAll ls bs = false by simp [fewAll, hf])
      rw [hf] at HF
      clear hf
      go_enter Try.func67, Try.ntmps67
      go_wp2
      go_loop [11] (fun i => i = .int .i64 0) (fun _ => 0)
      case atStart => rfl
      case round =>
        obtain rfl := hrel
        go_wp2_with fail
        refine HF.out.mono ?_
        rintro e w1 ⟨rfl, hb1⟩
        go_wp2
        go_ret
        exact ⟨ret_bool HE.out.symm, hb1⟩
    · have HE := Lib.hid (show fewAll ls bs = true by simp [fewAll, hf, h20])
      rw [hf] at HF
      clear hf
      go_enter Try.func67, Try.ntmps67
      go_wp2
      go_loop [11] (fun i => i = .int .i64 0) (fun _ => 0)
      case atStart => rfl
      case round =>
        obtain rfl := hrel
        go_wp2_with fail
        refine HF.out.mono ?_
        rintro e w1 ⟨rfl, hb1⟩
        go_wp2
        go_ret
        exact ⟨ret_bool HE.out.symm, hb1⟩
  · have hi : ¬ (ls.length : Int) ≤ 20 := by omega
    have HE := Lib.hid (show fewAll ls bs = false by simp [fewAll, h20])
    go_enter Try.func67, Try.ntmps67
    go_wp2
    go_loop [11] (fun i => i = .int .i64 0) (fun _ => 0)
    case atStart => rfl
    case round =>
      obtain rfl := hrel
      go_wp2
      go_ret
      exact ⟨ret_bool HE.out.symm, Below.refl _ _⟩
set_option maxHeartbeats 1000000 in
theorem few41_c (ls : List Shelf) (bs : List Box) (vl vb : Value) (w : World) (B : Nat) (hB : B ≤ w.heap.size) (hl : Shelves w B ls vl) (h : Boxes w B bs vb) :
    Calls Try.prog 38 #[vl, vb] w fun e w' => e = .returned (.bool (fewB ls bs)) ∧ Below w.heap.size w w' := by
  have HF := Lib.hid (few37_c ls bs vl vb w B hB hl h)
  cases hf : fewAll ls bs
  · have HE := Lib.hid (show fewB ls bs = false by simp [fewB, hf])
    rw [hf] at HF
    clear hf
    go_enter Try.func38, Try.ntmps38
    go_wp2_with fail
    refine HF.out.mono ?_
    rintro e w1 ⟨rfl, hb1⟩
    go_wp2
    go_ret
    exact ⟨ret_bool HE.out.symm, hb1⟩
  · have h20 : ls.length ≤ 20 := by simp only [fewAll, Bool.and_eq_true, decide_eq_true_eq] at hf; exact hf.1
    have HSZ := Lib.hid (fun (W : World) (hW : Below w.heap.size w W) => size_c ls bs vl vb W B (hl.below shS (hW.mono hB)) (h.below boS (hW.mono hB)) (by omega))
    have HE := Lib.hid (show fewB ls bs = (decide (sizeF ls.length bs.length ≤ 300) || decide (4096 < sizeF ls.length bs.length)) by simp [fewB, hf])
    rw [hf] at HF
    clear hf
    by_cases h3 : sizeF ls.length bs.length ≤ 300
    · have hi : decide ((sizeF ls.length bs.length : Int) ≤ 300) = true := by simp; omega
      go_enter Try.func38, Try.ntmps38
      go_wp2_with fail
      refine HF.out.mono ?_
      rintro e w1 ⟨rfl, hb1⟩
      go_wp2_with fail
      refine (HSZ.out _ hb1).mono ?_
      rintro e w2 ⟨rfl, rfl⟩
      go_wp2
      go_ret
      exact ⟨ret_bool (by rw [HE.out]; simp [h3]), hb1⟩
    · have hi : decide ((sizeF ls.length bs.length : Int) ≤ 300) = false := by simp; omega
      by_cases h4 : 4096 < sizeF ls.length bs.length
      · have hi2 : decide ((4096 : Int) < (sizeF ls.length bs.length : Int)) = true := by simp; omega
        go_enter Try.func38, Try.ntmps38
        go_wp2_with fail
        refine HF.out.mono ?_
        rintro e w1 ⟨rfl, hb1⟩
        go_wp2_with fail
        refine (HSZ.out _ hb1).mono ?_
        rintro e w2 ⟨rfl, rfl⟩
        go_wp2
        go_ret
        exact ⟨ret_bool (by rw [HE.out]; simp [h4]), hb1⟩
      · have hi2 : decide ((4096 : Int) < (sizeF ls.length bs.length : Int)) = false := by simp; omega
        go_enter Try.func38, Try.ntmps38
        go_wp2_with fail
        refine HF.out.mono ?_
        rintro e w1 ⟨rfl, hb1⟩
        go_wp2_with fail
        refine (HSZ.out _ hb1).mono ?_
        rintro e w2 ⟨rfl, rfl⟩
        go_wp2
        go_ret
        exact ⟨ret_bool (by rw [HE.out]; simp [h3, h4]), hb1⟩
theorem few_c (ls : List Shelf) (bs : List Box) (vl vb : Value) (w : World) (B : Nat) (hB : B ≤ w.heap.size) (hl : Shelves w B ls vl) (h : Boxes w B bs vb) :
    Calls Try.prog 11 #[.agg #[vl, vb]] w fun e w' => e = .returned (.bool (fewB ls bs)) ∧ Below w.heap.size w w' := by
  have b0 : Below w.heap.size w (w.alloc (roomsC vl vb)) := (Below.refl _ _).alloc (Nat.le_refl _) _
  have HF := Lib.hid (few41_c ls bs vl vb _ B (Nat.le_trans hB b0.size) (hl.below shS (b0.mono hB)) (h.below boS (b0.mono hB)))
  go_enter Try.func11, Try.ntmps11
  go_wp2_with fail
  refine HF.out.mono ?_
  rintro e w1 ⟨rfl, hb1⟩
  go_wp2
  go_ret
  exact ⟨rfl, b0.trans (hb1.mono (by simp))⟩

def exS (n : Nat) : List Shelf := (List.range n).map fun k : Nat => ⟨(k : Int) + 1, 1, 100, 0⟩
theorem exS_succ (n : Nat) : exS (n + 1) = exS n ++ [⟨(n : Int) + 1, 1, 100, 0⟩] := by simp [exS, List.range_succ]
theorem exS_len (n : Nat) : (exS n).length = n := by simp [exS]
def exB : List Box := [⟨5, 60, 1, 0, []⟩, ⟨6, 70, 1, 0, []⟩]
abbrev exBC : Obj := .cells #[.int .i64 5, .int .i64 60, .int .i64 1, .int .i64 0, .slice none 0 0, .int .i64 6, .int .i64 70, .int .i64 1, .int .i64 0, .slice none 0 0] 101
theorem exB_rep {W : World} {g : Nat} (hg : W.heap[g]? = some exBC) : SlRep 5 boxR W (fun b => b = g) exB (.slice (some ⟨g, 0, none⟩) 2 2) := by
  refine ⟨_, 2, rfl, by simp [exB], by omega, fun i x hx => ?_⟩
  have hil := lt_of_at hx
  simp [exB] at hil
  rcases (show i = 0 ∨ i = 1 by omega) with rfl | rfl
  · simp [exB] at hx
    subst hx
    refine ⟨g, 0, _, rfl, rfl, ⟨_, rfl, SlRep.nil_⟩, fun j u hu => ?_⟩
    have hj := lt_of_at hu
    simp only [List.length_cons, List.length_nil] at hj
    rcases (show j = 0 ∨ j = 1 ∨ j = 2 ∨ j = 3 ∨ j = 4 by omega) with rfl | rfl | rfl | rfl | rfl <;> (simp at hu; subst hu; simp [World.cell?, hg])
  · simp [exB] at hx
    subst hx
    refine ⟨g, 0, _, rfl, rfl, ⟨_, rfl, SlRep.nil_⟩, fun j u hu => ?_⟩
    have hj := lt_of_at hu
    simp only [List.length_cons, List.length_nil] at hj
    rcases (show j = 0 ∨ j = 1 ∨ j = 2 ∨ j = 3 ∨ j = 4 by omega) with rfl | rfl | rfl | rfl | rfl <;> (simp at hu; subst hu; simp [World.cell?, hg])
set_option maxRecDepth 10000 in
set_option maxHeartbeats 2000000 in
theorem example_c (n : Nat) (hn : n ≤ 10) (w : World) :
    Calls Try.prog 37 #[.int .i64 (n : Int)] w fun e w' => ∃ v1 v2, e = .returned (.agg #[v1, v2]) ∧ Shelves w' w'.heap.size (exS n) v1 ∧ Boxes w' w'.heap.size exB v2 ∧ Below w.heap.size w w' := by
  go_enter Try.func37, Try.ntmps37
  go_wp2
  go_loopw [10] (fun i wr => ∃ (k : Nat) (vo : Value), k ≤ n ∧ i = .int .i64 k ∧ wr.heap[w.heap.size + 2]? = some (.cells #[vo, .slice (some ⟨w.heap.size + 1, 0, none⟩) 2 2] 25 (0, 0)) ∧ OwnRep 4 (flat Shelf.enc) 63 (w.heap.size + 3) wr (exS k) vo ∧ wr.heap[w.heap.size + 1]? = some exBC ∧ wr.heap[w.heap.size]? = some (.cells #[.slice none 0 0, .slice none 0 0] 25 (0, 0)) ∧ Below w.heap.size w wr ∧ w.heap.size + 3 ≤ wr.heap.size) (fun i _ => n - (intOf i).toNat)
  case atStart =>
    refine ⟨0, _, Nat.zero_le _, rfl, ?_, OwnRep.nil_, ?_, ?_, (((Below.refl _ _).alloc (Nat.le_refl _) _).alloc (by simp) _).alloc (by simp; omega) _, by simp⟩
    · have := heap_alloc_new ((w.alloc (.cells #[.slice none 0 0, .slice none 0 0] 25)).alloc exBC) (.cells #[.slice none 0 0, .slice (some ⟨w.heap.size + 1, 0, none⟩) 2 2] 25)
      simpa using this
    · refine (Below.heap_alloc _ _ _ (by simp)).trans ?_
      have := heap_alloc_new (w.alloc (.cells #[.slice none 0 0, .slice none 0 0] 25)) exBC
      simpa using this
    · refine (Below.heap_alloc _ _ _ (by simp; omega)).trans ((Below.heap_alloc _ _ _ (by simp)).trans ?_)
      exact heap_alloc_new w _
  case round =>
    obtain ⟨k, vo, hk, rfl, h2, hown, h1, h0, hb, hsz⟩ := hrel
    have c0 : wr.cell? ⟨w.heap.size + 2, 0, none⟩ = some vo := by simp [World.cell?, h2]
    have c1 : wr.cell? ⟨w.heap.size + 2, 1, none⟩ = some (.slice (some ⟨w.heap.size + 1, 0, none⟩) 2 2) := by simp [World.cell?, h2]
    have hl2 : w.heap.size + 2 < wr.heap.size := by omega
    have hlto := hown.own_lt
    have hel := exS_len k
    have HEL := Lib.hid hel
    clear hel
    by_cases hlt : k < n
    · have HX := Lib.hid (exS_succ k)
      obtain ⟨Ao, co, rfl, -⟩ := id (hown.toSl shS)
      generalize exS k = acc at *
      have hki : (k : Int) < (n : Int) := by omega
      go_wp2_with (at_builtin; refine stop_intro ?_)
      refine stop_elim ?_
      refine wpList_append_rep rfl shS shelfE_ (w.heap.size + 3) (.tmp 14) (.tmp 18) rfl rfl (hown.alloc shS _) rfl (ys := [⟨(k : Int) + 1, 1, 100, 0⟩]) (SlRep.one_new shS (t := 63) (x := ⟨(k : Int) + 1, 1, 100, 0⟩) (F := fun _ => False) (w := wr) (cs := Shelf.enc ⟨(k : Int) + 1, 1, 100, 0⟩) rfl rfl (fun b h => h.elim)) ?F ?n (by decide) ?hb ?_
      case F =>
        rintro b (hb' | rfl)
        · exact hb'.elim
        · exact ⟨by simp, fun e => by have := (hlto _ e).2; omega⟩
      case n => have := HEL.out; simp; omega
      case hb => simp; omega
      intro v6 w6 hown6 hg6 hat6
      rw [← HX.out] at hown6
      have hs6 := hg6.size
      simp only [World.size_alloc] at hs6
      have k2 : w6.heap[w.heap.size + 2]? = wr.heap[w.heap.size + 2]? := (hg6.block _ (by simp; omega) (fun e => by have := (hlto _ e.symm).1; omega)).trans (Below.heap_alloc _ _ _ (by omega))
      have k1 : w6.heap[w.heap.size + 1]? = wr.heap[w.heap.size + 1]? := (hg6.block _ (by simp; omega) (fun e => by have := (hlto _ e.symm).1; omega)).trans (Below.heap_alloc _ _ _ (by omega))
      have k0 : w6.heap[w.heap.size]? = wr.heap[w.heap.size]? := (hg6.block _ (by simp; omega) (fun e => by have := (hlto _ e.symm).1; omega)).trans (Below.heap_alloc _ _ _ (by omega))
      have h26 := k2.trans h2
      have d0 : w6.cell? ⟨w.heap.size + 2, 0, none⟩ = some (.slice Ao acc.length co) := by simp [World.cell?, h26]
      have f0 : w6.frozen? ⟨w.heap.size + 2, 0, none⟩ = false := by simp [World.frozen?, h26]
      have hl6 : w.heap.size + 2 < w6.heap.size := by omega
      obtain ⟨A6, c6, rfl, -⟩ := id (hown6.toSl shS)
      generalize hac : exS (k + 1) = acc2 at *
      have HAC := Lib.hid hac
      clear hac
      have hlt6 := hown6.own_lt
      have hb6 : Below w.heap.size w (w6.setCell ⟨w.heap.size + 2, 0, none⟩ (.slice A6 acc2.length c6)) := ((hb.alloc (by omega) _).grown hg6 (by simp; omega) (fun k hk => by have := (hlto k hk).1; omega)).setCell (p := ⟨w.heap.size + 2, 0, none⟩) (by show w.heap.size ≤ w.heap.size + 2; omega) _
      have hown7 := hown6.keep (w' := w6.setCell ⟨w.heap.size + 2, 0, none⟩ (.slice A6 acc2.length c6)) (fun b hb' => Below.heap_setCell _ _ _ _ (fun e => by have := (hlt6 b hb').1; simp at e; omega))
      have h27 : (w6.setCell ⟨w.heap.size + 2, 0, none⟩ (.slice A6 acc2.length c6)).heap[w.heap.size + 2]? = some (.cells #[.slice A6 acc2.length c6, .slice (some ⟨w.heap.size + 1, 0, none⟩) 2 2] 25 (0, 0)) := by simp [World.setCell, Array.getElem?_modify, h26]
      have h17 : (w6.setCell ⟨w.heap.size + 2, 0, none⟩ (.slice A6 acc2.length c6)).heap[w.heap.size + 1]? = some exBC := (Below.heap_setCell _ _ _ _ (by simp)).trans (k1.trans h1)
      have h07 : (w6.setCell ⟨w.heap.size + 2, 0, none⟩ (.slice A6 acc2.length c6)).heap[w.heap.size]? = some (.cells #[.slice none 0 0, .slice none 0 0] 25 (0, 0)) := (Below.heap_setCell _ _ _ _ (by simp)).trans (k0.trans h0)
      have HFIN := Lib.hid (show (w6.setCell ⟨w.heap.size + 2, 0, none⟩ (.slice A6 acc2.length c6)).heap[w.heap.size + 2]? = some (.cells #[.slice A6 acc2.length c6, .slice (some ⟨w.heap.size + 1, 0, none⟩) 2 2] 25 (0, 0)) ∧ (w6.setCell ⟨w.heap.size + 2, 0, none⟩ (.slice A6 acc2.length c6)).heap[w.heap.size + 1]? = some exBC ∧ (w6.setCell ⟨w.heap.size + 2, 0, none⟩ (.slice A6 acc2.length c6)).heap[w.heap.size]? = some (.cells #[.slice none 0 0, .slice none 0 0] 25 (0, 0)) from ⟨h27, h17, h07⟩)
      clear h27 h17 h07 k0 k1 k2 h26 h0 h1 h2 c0 c1 hown6 hg6 hat6 hown HX
      go_wp2
      go_roundw
      case rel => exact ⟨k + 1, _, by omega, by go_num, HFIN.out.1, by rw [HAC.out]; exact hown7, HFIN.out.2.1, HFIN.out.2.2, hb6, by simp; omega⟩
      case measure => simp [intOf]; omega
    · obtain rfl : k = n := by omega
      obtain ⟨Ao, co, rfl, -⟩ := id (hown.toSl shS)
      have e0 : wr.cell? ⟨w.heap.size, 0, none⟩ = some (.slice none 0 0) := by simp [World.cell?, h0]
      have e1 : wr.cell? ⟨w.heap.size, 1, none⟩ = some (.slice none 0 0) := by simp [World.cell?, h0]
      have f0 : wr.frozen? ⟨w.heap.size, 0, none⟩ = false := by simp [World.frozen?, h0]
      have f1 : wr.frozen? ⟨w.heap.size, 1, none⟩ = false := by simp [World.frozen?, h0]
      have hl0 : w.heap.size < wr.heap.size := by omega
      generalize hac : exS k = acc at *
      have HAC := Lib.hid hac
      have hfr : ∀ (u u' : Value) (b : Nat), b ≠ w.heap.size → ((wr.setCell ⟨w.heap.size, 0, none⟩ u).setCell ⟨w.heap.size, 1, none⟩ u').heap[b]? = wr.heap[b]? := fun u u' b hbn => (Below.heap_setCell _ _ _ _ hbn).trans (Below.heap_setCell _ _ _ _ hbn)
      have hR1 := Lib.hid (fun (u u' : Value) => (hown.toFlat shS).frame (w' := (wr.setCell ⟨w.heap.size, 0, none⟩ u).setCell ⟨w.heap.size, 1, none⟩ u') shS (fun b hb' => hfr u u' b (by have := (hlto b hb').1; omega)))
      have hR2 := Lib.hid (fun (u u' : Value) => (exB_rep h1).frame (w' := (wr.setCell ⟨w.heap.size, 0, none⟩ u).setCell ⟨w.heap.size, 1, none⟩ u') boS (fun b hb' => hfr u u' b (by omega)))
      clear hac hfr h0 h1 h2
      go_wp2
      refine bodyPost_ret (v := .agg #[.slice Ao acc.length co, .slice (some ⟨w.heap.size + 1, 0, none⟩) 2 2]) (by simp [results, Try.results37, go_sem, e0, e1]) rfl ⟨_, _, rfl, ?_, ?_, (hb.setCell (Nat.le_refl _) _).setCell (Nat.le_refl _) _⟩
      · rw [HAC.out]; exact (hR1.out _ _).monoF shS (fun b hb' => by have := (hlto b hb').2; simpa using this)
      · exact (hR2.out _ _).monoF boS (fun b hb' => by subst hb'; simp; omega)
end Go.Proofs.Ythabpkigflldmaa
