/- slices.Grow of the nil slice and slices.Concat of two lists of items. -/
import Derived.Test.YtenaifmkejmdaaaGreatDoorLwC
import Derived.Test.YtenaifmkejmdaaaGreatDoorGro
import Derived.Test.YtenaifmkejmdaaaGreatDoorSoI
import Derived.LoopIn
namespace Go.Proofs.YtenaifmkejmdaaaGreatDoor
open Go.RowKit Go.Shelf

theorem own_form {α : Type} {k : Nat} {R : CRep α} (hR : Shape k R) {e : TypeId} {base : Nat} {w : World} {xs : List α} {v : Value} (h : OwnRep k R e base w xs v) : ∃ A n c, v = .slice A n c ∧ Hid (n = xs.length) := by
  obtain ⟨A, c, e1, -⟩ := h.toSl hR
  exact ⟨A, _, c, e1, Lib.hid rfl⟩
/-- slices.Grow of the nil slice -/
theorem growNilI_c (n : Nat) (w : World) (hn : n ≤ 2000) :
    Calls Tryz.prog 75 #[.slice none 0 0, .int .i64 n] w fun e w' => ∃ v, e = .returned v ∧ OwnRep 7 (flat Item.enc) 47 w.heap.size w' ([] : List Item) v ∧ Below w.heap.size w w' := by
  by_cases h0 : n = 0
  · subst h0
    have hc := Any8.slices_Grow_room Tryz.growItm none 0 0 0 w (Nat.le_refl _) (by omega) (by omega) (Nat.le_refl _)
    change Calls Tryz.prog 75 _ _ _ at hc
    refine hc.mono ?_
    rintro e w' ⟨rfl, rfl⟩
    exact ⟨_, rfl, OwnRep.nil_, Below.refl _ _⟩
  · obtain ⟨i, h1, h2, h3, h4⟩ := info_parts (P := Tryz.prog) (e := 47) (z := .agg #[.int .i64 0, .int .i64 0, .string ⟨#[]⟩, .int .i64 0, .int .i64 0, .int .i64 0, .string ⟨#[]⟩]) (size := 7) (bytes := 72) (by kernel_rfl)
    have hc := Any8.slices_Grow_grow Tryz.growItm i _ h1 h2 (by rw [h3]; omega) none 0 0 n [] w (Nat.le_refl _) (by omega) (by rw [h4]; omega) (by omega) (by simp) (fun _ => rfl) (fun a ha => by cases ha)
    change Calls Tryz.prog 75 _ _ _ at hc
    refine hc.mono ?_
    rintro e w' ⟨rfl, rfl⟩
    refine ⟨_, rfl, ?_, ((Below.refl _ _).drew).alloc (Nat.le_refl _) _⟩
    have hG := grownCap_ge w (0 + n) 0 (Tryz.growItm_ren.t 25)
    have hM := grownCap_le_maxLen w (0 + n) 0 (Tryz.growItm_ren.t 25) (by unfold maxLen; omega)
    refine ⟨[], rfl, fun j x cs hx => by simp at hx, by simp, .inr ⟨w.heap.size, _, _, rfl, Nat.le_refl _, by show (w.heap.push _)[w.heap.size]? = _; exact Array.getElem?_push_size, Nat.zero_le _, hM, ?_, by simp⟩⟩
    simp only [Array.size_append, size_zeroCells, List.size_toArray, List.length_nil]
    generalize grownCap w (0 + n) 0 (Tryz.growItm_ren.t 25) = G at *
    have : (Value.cells (.agg #[.int .i64 0, .int .i64 0, .string ⟨#[]⟩, .int .i64 0, .int .i64 0, .int .i64 0, .string ⟨#[]⟩])).size = 7 := rfl
    rw [this]
    omega
set_option maxRecDepth 100000 in
set_option maxHeartbeats 4000000 in
/-- slices.Concat of two lists of sheets -/
theorem concatI_c (xs ys : List Item) (v v' : Value) (g : Nat) (w : World) (B : Nat) (hB : B ≤ w.heap.size) (h : SlRep 7 (flat Item.enc) w (fun b => b < B) xs v) (h' : SlRep 7 (flat Item.enc) w (fun b => b < B) ys v') (hn : xs.length ≤ 1000) (hm : ys.length ≤ 1000) (z0 : w.cell? ⟨g, 0, none⟩ = some v) (z1 : w.cell? ⟨g, 1, none⟩ = some v') :
    Calls Tryz.prog 55 #[.slice (some ⟨g, 0, none⟩) 2 2] w fun e w' => ∃ v', e = .returned v' ∧ OwnRep 7 (flat Item.enc) 47 w.heap.size w' (xs ++ ys) v' ∧ Below w.heap.size w w' := by
  obtain ⟨A, c, rfl, hc1, hc2, _⟩ := id h
  obtain ⟨A', c', rfl, hd1, hd2, _⟩ := id h'
  have hgl := World.block_lt_of_cell? w ⟨g, 0, none⟩ z0
  have hq1 : ¬ ((xs.length : Int) < 0) := by omega
  have hq2 : ¬ ((xs.length : Int) + (ys.length : Int) < 0) := by omega
  have hw2 : IntKind.i64.wrap ((xs.length : Int) + (ys.length : Int)) = (xs.length : Int) + (ys.length : Int) := IntWalk.i64_in _ (by omega)
  have HG := Lib.hid (growNilI_c (xs.length + ys.length) w (by omega))
  go_enter Tryz.func55, Tryz.ntmps55
  go_wp2
  refine wp_loop_rounds 3 ?_
  rw [rounds_succ]
  go_wp2_with fail
  rw [rounds_succ]
  go_wp2_with fail
  rw [rounds_succ]
  go_wp2_with fail
  refine HG.out.mono ?_
  rintro e w1 ⟨vg, rfl, hown, hb1⟩
  have y0 := (hb1.cell (p := ⟨g, 0, none⟩) hgl).trans z0
  have y1 := (hb1.cell (p := ⟨g, 1, none⟩) hgl).trans z1
  have yl := Nat.lt_of_lt_of_le hgl hb1.size
  have hlo := hown.own_lt
  have hs1 := hb1.size
  obtain ⟨Ag, ng, cg, rfl, hng⟩ := own_form itmS hown
  go_wp2
  refine wp_loop_rounds 3 ?_
  rw [rounds_succ]
  go_wp2_with (at_builtin; refine stop_intro ?_)
  refine stop_elim ?_
  refine wpList_append_rep rfl itmS itmE_ w.heap.size (.tmp 31) (.tmp 32) rfl rfl hown rfl (ys := xs) (h.below itmS (hb1.mono hB)) (fun b (hb : b < B) => ⟨by omega, fun e => by have := (hlo b e).1; omega⟩) (by simp; omega) (by decide) hs1 ?_
  intro v2 w2 hown2 hg2 hat2
  have hb2 := hb1.grown hg2 hs1 (fun j hj => (hlo j hj).1)
  have y0 := (hb2.cell (p := ⟨g, 0, none⟩) hgl).trans z0
  have y1 := (hb2.cell (p := ⟨g, 1, none⟩) hgl).trans z1
  have yl := Nat.lt_of_lt_of_le hgl hb2.size
  have hlo2 := hown2.own_lt
  have hs2 := hb2.size
  rw [List.nil_append] at hown2
  obtain ⟨Ah, nh, ch, rfl, hnh⟩ := own_form itmS hown2
  go_wp2
  rw [rounds_succ]
  go_wp2_with (at_builtin; refine stop_intro ?_)
  refine stop_elim ?_
  refine wpList_append_rep rfl itmS itmE_ w.heap.size (.tmp 31) (.tmp 32) rfl rfl hown2 rfl (ys := ys) (h'.below itmS (hb2.mono hB)) (fun b (hb : b < B) => ⟨by omega, fun e => by have := (hlo2 b e).1; omega⟩) (by omega) (by decide) hs2 ?_
  intro v3 w3 hown3 hg3 hat3
  have hb3 := hb2.grown hg3 hs2 (fun j hj => (hlo2 j hj).1)
  obtain ⟨Ai, ni, ci, rfl, hni⟩ := own_form itmS hown3
  go_wp2
  rw [rounds_succ]
  go_wp2
  go_ret
  exact ⟨_, rfl, hown3, hb3⟩

end Go.Proofs.YtenaifmkejmdaaaGreatDoor
