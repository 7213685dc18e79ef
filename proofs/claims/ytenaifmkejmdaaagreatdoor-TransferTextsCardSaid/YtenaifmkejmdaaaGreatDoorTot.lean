/- The program: Total. -/
import Derived.Test.YtenaifmkejmdaaaGreatDoorRtC
namespace Go.Proofs.YtenaifmkejmdaaaGreatDoor
open Go.RowKit

theorem sumP_snoc {l : List Item} {k : Nat} {x : Item} (h : l[k]? = some x) : sumP (l.take (k + 1)) = sumP (l.take k) + x.pages := by rw [take_at h, sumP_app, sumP_one]
theorem minG_snoc {l : List Item} {k : Nat} {x : Item} (a : Int) (h : l[k]? = some x) : minG a (l.take (k + 1)) = min (minG a (l.take k)) x.first := by rw [take_at h]; unfold minG; rw [List.foldl_append]; rfl
theorem maxG_snoc {l : List Item} {k : Nat} {x : Item} (a : Int) (h : l[k]? = some x) : maxG a (l.take (k + 1)) = max (maxG a (l.take k)) x.last := by rw [take_at h]; unfold maxG; rw [List.foldl_append]; rfl
theorem sumP_le : ∀ (l : List Item), (∀ x ∈ l, ItemOk x) → 0 ≤ sumP l ∧ sumP l ≤ 100000 * l.length
  | [], _ => by simp [sumP]
  | x :: l, h => by
    have h1 := sumP_le l (fun y hy => h y (by simp [hy]))
    have h2 := (h x (by simp)).pages
    rw [show x :: l = [x] ++ l from rfl, sumP_app, sumP_one, List.length_append]
    simp only [List.length_singleton]
    omega
abbrev dat2 (W : World) (b : Nat) (x y : Int) : World := (W.setCell ⟨b, 0, none⟩ (.int .i64 x)).setCell ⟨b, 1, none⟩ (.int .i64 y)
theorem dat2_at {W : World} {b : Nat} {a1 a2 x y : Int} (h : W.heap[b]? = some (datC a1 a2)) : (dat2 W b x y).heap[b]? = some (datC x y) := by
  simp [dat2, World.setCell, Array.getElem?_modify, h]
theorem dat1_at {W : World} {b : Nat} {a1 a2 x : Int} (h : W.heap[b]? = some (datC a1 a2)) : (W.setCell ⟨b, 0, none⟩ (.int .i64 x)).heap[b]? = some (datC x a2) := by
  simp [World.setCell, Array.getElem?_modify, h]
theorem dat2_below {B : Nat} {w W : World} {b : Nat} {x y : Int} (h : Below B w W) (hb : B ≤ b) : Below B w (dat2 W b x y) := (h.setCell hb _).setCell hb _
theorem dat_cells {W : World} {b : Nat} {a1 a2 : Int} (h : W.heap[b]? = some (datC a1 a2)) : W.cell? ⟨b, 0, none⟩ = some (.int .i64 a1) ∧ W.cell? ⟨b, 1, none⟩ = some (.int .i64 a2) ∧ W.frozen? ⟨b, 0, none⟩ = false ∧ W.frozen? ⟨b, 1, none⟩ = false ∧ b < W.heap.size :=
  ⟨by rw [Lib.cell_of_heap h]; rfl, by rw [Lib.cell_of_heap h]; rfl, Lib.frozen_of_heap h 0, Lib.frozen_of_heap h 1, heap_ltA h⟩
theorem heap_newA (W : World) (o : Obj) : (W.alloc o).heap[W.heap.size]? = some o := by
  show (W.heap.push _)[W.heap.size]? = _
  simp
set_option maxRecDepth 100000 in
set_option maxHeartbeats 4000000 in
theorem total_c (l : TL) (v : Value) (w : World) (B : Nat) (hB : B ≤ w.heap.size) (h : TLRep w B l v) (hV : VarOk w) :
    Calls Tryz.prog 10 #[tlV l v] w fun e w' => e = .returned (.tuple #[.int .i64 (totP l), .agg #[.int .i64 (totA l), .int .i64 (totB l)], .int .i64 (totE l)]) ∧ Below w.heap.size w w' := by
  have b00 : Below w.heap.size w (w.alloc (tlC l v)) := (Below.refl _ _).alloc (Nat.le_refl _) _
  have hb0 : Below (w.heap.size + 1) (w.alloc (tlC l v)) ((w.alloc (tlC l v)).alloc (datC 0 0)) := (Below.refl _ _).alloc (by simp) _
  have b0 := b00.trans (hb0.mono (Nat.le_succ _))
  have HD0 := Lib.hid (show ((w.alloc (tlC l v)).alloc (datC 0 0)).heap[w.heap.size + 1]? = some (datC 0 0) by
    have := heap_newA (w.alloc (tlC l v)) (datC 0 0)
    rwa [show (w.alloc (tlC l v)).heap.size = w.heap.size + 1 by simp] at this)
  have KC := Lib.hid (fun (W : World) (hW : Below (w.heap.size + 1) (w.alloc (tlC l v)) W) => tlW_at hW)
  have HR := Lib.hid (right_c l v ((w.alloc (tlC l v)).alloc (datC 0 0)) B (Nat.le_trans hB b0.size) (h.below itmS (b0.mono hB)) (hV.below b0))
  obtain ⟨A, c, rfl, -⟩ := id h
  cases hr : rightB l
  · rw [hr] at HR
    have HX := Lib.hid (show totP l = 0 ∧ totA l = 0 ∧ totB l = 0 ∧ totE l = 1 by unfold totP totA totB totE; rw [hr]; exact ⟨rfl, rfl, rfl, rfl⟩)
    go_enter Tryz.func10, Tryz.ntmps10
    go_wp2_with fail
    refine HR.out.mono ?_
    rintro e w1 ⟨rfl, hb1⟩
    have hd1 := (hb1.block (w.heap.size + 1) (by simp)).trans HD0.out
    obtain ⟨q0, q1, f0, f1, ql⟩ := dat_cells hd1
    obtain ⟨-, p1, -, g1, -⟩ := dat_cells (dat1_at (x := 0) hd1)
    have hd2 := dat2_at (x := 0) (y := 0) hd1
    obtain ⟨e0, e1, -, -, -⟩ := dat_cells hd2
    have bF := dat2_below (b := w.heap.size + 1) (x := 0) (y := 0) (b0.trans (hb1.mono (by simp; omega))) (Nat.le_succ _)
    clear hr
    go_wp2
    refine bodyPost_ret (v := .tuple #[.int .i64 0, .agg #[.int .i64 0, .int .i64 0], .int .i64 1]) (by simp [results, Tryz.results10, go_sem, e0, e1]) rfl ⟨by rw [HX.out.1, HX.out.2.1, HX.out.2.2.1, HX.out.2.2.2], bF⟩
  · rw [hr] at HR
    have hok := right_ok hr
    have HX := Lib.hid (show totP l = sumP l.items ∧ totA l = minG (fst0 l) l.items ∧ totB l = maxG (lst0 l) l.items ∧ totE l = 0 by unfold totP totA totB totE; rw [hr]; exact ⟨rfl, rfl, rfl, rfl⟩)
    have hlen := hok.len
    obtain ⟨x0, hx0⟩ := get_at l.items (List.length_pos_iff.2 hok.ne)
    have HF := Lib.hid (show fst0 l = x0.first ∧ lst0 l = x0.last by unfold fst0 lst0; rw [List.head?_eq_getElem?, hx0]; exact ⟨rfl, rfl⟩)
    have HSN := Lib.hid (fun (k : Nat) (x : Item) (hx : l.items[k]? = some x) => And.intro (sumP_snoc hx) (And.intro (minG_snoc x0.first hx) (maxG_snoc x0.last hx)))
    have HSL := Lib.hid (fun (k : Nat) => sumP_le (l.items.take k) (fun x hx => hok.item x (List.mem_of_mem_take hx)))
    have HIT := Lib.hid (fun (k : Nat) (x : Item) (hx : l.items[k]? = some x) (W : World) (hW : Below w.heap.size w W) => Items.at_ (h.below itmS (hW.mono hB)) hx)
    have HPG := Lib.hid (fun (k : Nat) (x : Item) (hx : l.items[k]? = some x) => (hok.item x (List.mem_of_getElem? hx)).pages)
    have hne : 0 < l.items.length := lt_of_at hx0
    clear hr hok
    go_enter Tryz.func10, Tryz.ntmps10
    go_wp2_with fail
    refine HR.out.mono ?_
    rintro e w1 ⟨rfl, hb1⟩
    have hd1 := (hb1.block (w.heap.size + 1) (by simp)).trans HD0.out
    have bX := hb0.trans (hb1.mono (by simp))
    have bW := b00.trans (bX.mono (Nat.le_succ _))
    obtain ⟨z0, z1, z2, z3, zl⟩ := KC.out _ bX
    obtain ⟨b, off, e9, hbB, g0, g1, g2, g3, g4, g5, g6⟩ := HIT.out 0 x0 hx0 _ bW
    subst e9
    simp only [Nat.zero_mul, Nat.add_zero] at g0 g1 g2 g3 g4 g5 g6
    have hbw : b < w1.heap.size := by have : b < B := hbB; have := bW.size; omega
    have hz0 : (0 : Int) < (l.items.length : Int) := by omega
    clear hx0
    have KEEP := Lib.hid (fun (W : World) (hW : Below w1.heap.size w1 W) => (⟨(hW.cell (p := ⟨w.heap.size, 3, none⟩) zl).trans z3, (hW.cell (p := ⟨b, off + 3, none⟩) hbw).trans g3, (hW.cell (p := ⟨b, off + 4, none⟩) hbw).trans g4⟩ : W.cell? ⟨w.heap.size, 3, none⟩ = some (.slice (some ⟨b, off, none⟩) l.items.length c) ∧ W.cell? ⟨b, off + 3, none⟩ = some (.int .i64 x0.first) ∧ W.cell? ⟨b, off + 4, none⟩ = some (.int .i64 x0.last)))
    have hbY0 : Below w1.heap.size w1 w1.drew := (Below.refl _ _).drew
    have hbY1 : Below w1.heap.size w1 (w1.alloc (datC 0 0)).drew := ((Below.refl _ _).alloc (Nat.le_refl _) _).drew
    have hbY2 : Below w1.heap.size w1 (w1.alloc (datC x0.first x0.last)).drew := ((Below.refl _ _).alloc (Nat.le_refl _) _).drew
    go_wp2
    go_region_held3 (fun W => W.cell? ⟨w.heap.size, 3, none⟩ = some (.slice (some ⟨b, off, none⟩) l.items.length c) ∧ W.cell? ⟨b, off + 3, none⟩ = some (.int .i64 x0.first) ∧ W.cell? ⟨b, off + 4, none⟩ = some (.int .i64 x0.last)) (first | (with_reducible exact KEEP.out _ hbY0) | (with_reducible exact KEEP.out _ hbY1) | (with_reducible exact KEEP.out _ hbY2)) (fail)
    have hdW : ((w1.alloc (datC x0.first x0.last)).drew).heap[w1.heap.size]? = some (datC x0.first x0.last) := heap_newA w1 _
    have hdR : ((w1.alloc (datC x0.first x0.last)).drew).heap[w.heap.size + 1]? = some (datC 0 0) := (hbY2.block _ (heap_ltA hd1)).trans hd1
    have hs2 : w1.heap.size < ((w1.alloc (datC x0.first x0.last)).drew).heap.size := heap_ltA hdW
    generalize (w1.alloc (datC x0.first x0.last)).drew = w2 at *
    have bW2 := bW.trans (hbY2.mono bW.size)
    have HD1 := Lib.hid hd1
    clear hbY0 hbY1 z0 z1 z2 z3 g0 g1 g2 g3 g4 g5 g6 hd1
    have KL := Lib.hid (fun (W : World) (hW : Below w1.heap.size w1 W) => (KEEP.out W hW).1)
    have bs1 := bW.size
    have H0 := Lib.hid (show (0 : Int) = sumP (l.items.take 0) ∧ x0.first = minG x0.first (l.items.take 0) ∧ x0.last = maxG x0.last (l.items.take 0) from ⟨rfl, rfl, rfl⟩)
    have z3 := KL.out _ hbY2
    have zl2 := Nat.lt_of_lt_of_le zl hbY2.size
    go_wp2
    clear z3 zl2
    go_loopw [5, 21] (fun p i wr => ∃ k : Nat, k ≤ l.items.length ∧ i = .int .i64 k ∧ p = .int .i64 (sumP (l.items.take k)) ∧ wr.heap[w1.heap.size]? = some (datC (minG x0.first (l.items.take k)) (maxG x0.last (l.items.take k))) ∧ Below w1.heap.size w1 wr ∧ w1.heap.size < wr.heap.size) (fun _ i _ => l.items.length - (intOf i).toNat)
    case atStart => exact ⟨0, Nat.zero_le _, rfl, by rw [← H0.out.1], by rw [← H0.out.2.1, ← H0.out.2.2]; exact hdW, hbY2, hs2⟩
    case round =>
      obtain ⟨k, hk, rfl, rfl, hdr, hbr, hsr⟩ := hrel
      have bWr := bW.trans (hbr.mono bW.size)
      by_cases hlt : k < l.items.length
      · obtain ⟨x, hx⟩ := get_at l.items hlt
        obtain ⟨_, _, e9, hbB2, g0, g1, g2, g3, g4, g5, g6⟩ := HIT.out k x hx _ bWr
        cases e9
        have hbw : b < wr.heap.size := by have : b < B := hbB2; have := bWr.size; omega
        obtain ⟨s1, s2, s3⟩ := HSN.out k x hx
        have HS := Lib.hid (And.intro s1 (And.intro s2 s3))
        have hpg := HPG.out k x hx
        have hsl := HSL.out k
        have htl : (l.items.take k).length ≤ 128 := by rw [List.length_take]; omega
        have hki : (k : Int) < (l.items.length : Int) := by omega
        have b1 : Below wr.heap.size wr (wr.alloc (itmC x)) := (Below.refl _ _).alloc (Nat.le_refl _) _
        have hda := (b1.block _ hsr).trans hdr
        generalize sumP (l.items.take k) = sp at *
        generalize minG x0.first (l.items.take k) = mn at *
        generalize maxG x0.last (l.items.take k) = mx at *
        have hwr : IntKind.i64.wrap (sp + x.pages) = sp + x.pages := IntWalk.i64_in _ (by omega)
        obtain ⟨q0, q1, f0, f1, ql⟩ := dat_cells hdr
        have hdb := dat1_at (x := min mn x.first) hdr
        obtain ⟨-, p1, -, p2, -⟩ := dat_cells hdb
        have hde := dat2_at (x := min mn x.first) (y := max mx x.last) hdr
        have hse := heap_ltA hde
        have hdc := Lib.hid ((Below.heap_alloc (dat2 wr w1.heap.size (min mn x.first) (max mx x.last)) (itmC x) _ hse).trans hde)
        have hbf := (dat2_below (b := w1.heap.size) (x := min mn x.first) (y := max mx x.last) hbr (Nat.le_refl _)).alloc (Nat.le_of_lt hse) (itmC x)
        have hsf := heap_ltA hdc.out
        clear hsl htl hx s1 s2 s3 hda hdb hdr hde hse
        go_wp2
        go_roundw
        case rel =>
          refine ⟨k + 1, by omega, by go_num, by rw [HS.out.1], ?_, ?_, ?_⟩
          · rw [HS.out.2.1, HS.out.2.2]
            exact hdc.out
          · exact hbf
          · exact hsf
        case measure => simp [intOf]; omega
      · have hk2 : k = l.items.length := by omega
        subst hk2
        rw [List.take_length] at *
        have hdR' := (hbr.block (w.heap.size + 1) (heap_ltA HD1.out)).trans HD1.out
        have hki : ¬ (l.items.length : Int) < (l.items.length : Int) := by omega
        have hlt1 := heap_ltA HD1.out
        obtain ⟨mn, hmn⟩ : ∃ mn, minG x0.first l.items = mn := ⟨_, rfl⟩
        obtain ⟨mx, hmx⟩ : ∃ mx, maxG x0.last l.items = mx := ⟨_, rfl⟩
        obtain ⟨sp, hsp⟩ : ∃ sp, sumP l.items = sp := ⟨_, rfl⟩
        rw [hmn, hmx] at hdr
        rw [hsp]
        have HMN := Lib.hid hmn
        have HMX := Lib.hid hmx
        have HSP := Lib.hid hsp
        clear hmn hmx hsp
        obtain ⟨e0, e1, e2, e3, el⟩ := dat_cells hdr
        obtain ⟨q0, q1, f0, f1, ql⟩ := dat_cells hdR'
        have hdb := dat1_at (x := mn) hdR'
        obtain ⟨-, p1, -, p2, -⟩ := dat_cells hdb
        have hdc := dat2_at (x := mn) (y := mx) hdR'
        obtain ⟨r0, r1, -, -, -⟩ := dat_cells hdc
        have hne : w1.heap.size ≠ w.heap.size + 1 := by omega
        have hS0 : (wr.drew).cell? ⟨w1.heap.size, 0, none⟩ = some (.int .i64 mn) ∧ (wr.drew).cell? ⟨w1.heap.size, 1, none⟩ = some (.int .i64 mx) := ⟨e0, e1⟩
        have hS1 : ((dat2 wr (w.heap.size + 1) mn mx).drew).cell? ⟨w1.heap.size, 0, none⟩ = some (.int .i64 mn) ∧ ((dat2 wr (w.heap.size + 1) mn mx).drew).cell? ⟨w1.heap.size, 1, none⟩ = some (.int .i64 mx) := by
          have hh : (dat2 wr (w.heap.size + 1) mn mx).heap[w1.heap.size]? = some (datC mn mx) := by
            rw [show (dat2 wr (w.heap.size + 1) mn mx).heap[w1.heap.size]? = wr.heap[w1.heap.size]? by unfold dat2; rw [Below.heap_setCell _ _ _ _ hne, Below.heap_setCell _ _ _ _ hne]]
            exact hdr
          exact ⟨(dat_cells hh).1, (dat_cells hh).2.1⟩
        have HBF := Lib.hid (dat2_below (b := w.heap.size + 1) (x := mn) (y := mx) bWr (Nat.le_succ _)).drew
        clear hdr hdR' hdb hdc
        go_wp2
        go_region_held3 (fun W => W.cell? ⟨w1.heap.size, 0, none⟩ = some (.int .i64 mn) ∧ W.cell? ⟨w1.heap.size, 1, none⟩ = some (.int .i64 mx)) (first | (with_reducible exact hS0) | (with_reducible exact hS1)) (fail)
        go_wp2
        have HXX := HX.out
        rw [HF.out.1, HF.out.2] at HXX
        refine bodyPost_ret (v := .tuple #[.int .i64 sp, .agg #[.int .i64 mn, .int .i64 mx], .int .i64 0]) (by simp [results, Tryz.results10, go_sem, r0, r1]) rfl ⟨by rw [HXX.1, HXX.2.1, HXX.2.2.1, HXX.2.2.2, HMN.out, HMX.out, HSP.out], HBF.out⟩
end Go.Proofs.YtenaifmkejmdaaaGreatDoor
