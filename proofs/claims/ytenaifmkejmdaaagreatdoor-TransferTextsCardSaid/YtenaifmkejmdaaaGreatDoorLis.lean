/- The statements' own helpers: cp, Few, Same; slices.Clone. -/
import Derived.Test.YtenaifmkejmdaaaGreatDoorPrs
import Derived.Test.YtenaifmkejmdaaaGreatDoorPrt
import Derived.Laws.StructEq
namespace Go.Proofs.YtenaifmkejmdaaaGreatDoor
open Go.RowKit

theorem SlRep.none_nil {α : Type} {k : Nat} {R : CRep α} {w : World} {F : Nat → Prop} {xs : List α} {n c : Nat} (h : SlRep k R w F xs (.slice none n c)) : xs = [] ∧ n = 0 := by
  obtain ⟨A', c', e', _, _, h3⟩ := h
  injection e' with e1 e2
  rcases xs with _ | ⟨y, ys⟩
  · exact ⟨rfl, e2⟩
  · obtain ⟨_, _, _, hA, _⟩ := h3 0 y rfl
    rw [← e1] at hA
    cases hA
def eqL {α : Type} (e : α → α → Bool) : List α → List α → Bool
  | [], [] => true
  | x :: r, y :: s => e x y && eqL e r s
  | _, _ => false
theorem eqL_iff {α : Type} {e : α → α → Bool} (he : ∀ x y, e x y = true ↔ x = y) : ∀ a b : List α, eqL e a b = true ↔ a = b
  | [], [] => by simp [eqL]
  | [], _ :: _ => by simp [eqL]
  | _ :: _, [] => by simp [eqL]
  | x :: r, y :: s => by simp [eqL, he, eqL_iff he r s]
theorem eqL_len {α : Type} (e : α → α → Bool) : ∀ a b : List α, a.length ≠ b.length → eqL e a b = false
  | [], [], h => by simp at h
  | [], _ :: _, _ => rfl
  | _ :: _, [], _ => rfl
  | x :: r, y :: s, h => by rw [eqL, eqL_len e r s (by simpa using h), Bool.and_false]
set_option maxHeartbeats 1000000 in
theorem cloneI_c (xs : List Item) (v : Value) (w : World) (B : Nat) (hB : B ≤ w.heap.size) (h : SlRep 7 (flat Item.enc) w (fun b => b < B) xs v) (hn : xs.length ≤ 100000) :
    Calls Tryz.prog 31 #[v] w fun e w' => ∃ v', e = .returned v' ∧ OwnRep 7 (flat Item.enc) 47 w.heap.size w' xs v' ∧ Below w.heap.size w w' := by
  obtain ⟨A, c, rfl, hc1, hc2, _⟩ := id h
  have HN := Lib.hid hn
  clear hn
  rcases A with _ | ad
  · obtain ⟨rfl, -⟩ := h.none_nil
    clear h
    have hq := fun (W : World) => Lib.run_eql_slice_nil (P := Tryz.prog) W 22 47 none 0 c 0 0 Tryz.underlying22
    go_enter Tryz.func31, Tryz.ntmps31
    go_wp2
    go_ret
    exact ⟨_, rfl, OwnRep.nil_, Below.refl _ _⟩
  · have hq := fun (W : World) => Lib.run_eql_slice_nil (P := Tryz.prog) W 22 47 (some ad) xs.length c 0 0 Tryz.underlying22
    go_enter Tryz.func31, Tryz.ntmps31
    go_wp2_with (at_builtin; refine stop_intro ?_)
    refine stop_elim ?_
    refine wpList_append_rep rfl itmS itmE_ w.heap.size (.tmp 5) (.tmp 6) rfl rfl (OwnRep.empty_new ?hg ?hb) rfl (ys := xs) (F := fun b => b < B) ?src ?F ?n (by decide) ?hbase ?_
    case hb => exact Nat.le_refl _
    case hg => rfl
    case src => exact h.below itmS ((Below.refl _ _).alloc hB _)
    case F => intro b' (hb' : b' < B); exact ⟨by simp only [World.size_alloc]; omega, show some w.heap.size ≠ some b' by simp; omega⟩
    case hbase => simp only [World.size_alloc]; omega
    case n => have hn := HN.out; simp; omega
    intro v1 w1 hown1 hg1 hat1
    rw [List.nil_append] at hown1
    change World.grownBy _ w1 (some w.heap.size) at hg1
    have hb1 : Below w.heap.size w w1 := ((Below.refl _ _).alloc (Nat.le_refl _) _).grown hg1 (by simp only [World.size_alloc]; omega) (fun k hk => by injection hk; omega)
    go_wp2
    go_ret
    exact ⟨_, rfl, hown1, hb1⟩
set_option maxRecDepth 100000 in
set_option maxHeartbeats 1000000 in
theorem cp_c (l : TL) (v : Value) (w : World) (B : Nat) (hB : B ≤ w.heap.size) (h : TLRep w B l v) (hn : l.items.length ≤ 100000) :
    Calls Tryz.prog 11 #[tlV l v] w fun e w' => ∃ v', e = .returned (tlV l v') ∧ OwnRep 7 (flat Item.enc) 47 w.heap.size w' l.items v' ∧ Below w.heap.size w w' := by
  have hb0 : Below w.heap.size w ((w.alloc (tlC l v)).alloc tlZ) := ((Below.refl _ _).alloc (Nat.le_refl _) _).alloc (by simp) _
  have HCL := Lib.hid (cloneI_c l.items v ((w.alloc (tlC l v)).alloc tlZ) B (Nat.le_trans hB hb0.size) (h.below itmS (hb0.mono hB)) hn)
  have HA := Lib.hid ((Below.heap_alloc (w.alloc (tlC l v)) tlZ w.heap.size (by simp)).trans (heap_newA w (tlC l v)))
  have HZ := Lib.hid (show ((w.alloc (tlC l v)).alloc tlZ).heap[w.heap.size + 1]? = some (tlC zTL (.slice none 0 0)) by
    have := heap_newA (w.alloc (tlC l v)) tlZ
    rwa [show (w.alloc (tlC l v)).heap.size = w.heap.size + 1 by simp] at this)
  obtain ⟨A, c, rfl, -⟩ := id h
  go_enter Tryz.func11, Tryz.ntmps11
  go_wp2_with fail
  refine HCL.out.mono ?_
  rintro e w1 ⟨v1, rfl, ho1, hb1⟩
  obtain ⟨A1, n1, k1, rfl⟩ : ∃ A n c, v1 = .slice A n c := by obtain ⟨A, c, h, -⟩ := ho1.toSl itmS; exact ⟨A, _, c, h⟩
  have hl1 := (hb1.block w.heap.size (by simp; omega)).trans HA.out
  have hz1 := (hb1.block (w.heap.size + 1) (by simp)).trans HZ.out
  obtain ⟨c0, c1, c2, c3, f3, cl⟩ := tl_cells hl1
  have hl2 : (w1.setCell ⟨w.heap.size, 3, none⟩ (.slice A1 n1 k1)).heap[w.heap.size]? = some (tlC l (.slice A1 n1 k1)) := put_at hl1 3 _ _ rfl
  have hz2 : (w1.setCell ⟨w.heap.size, 3, none⟩ (.slice A1 n1 k1)).heap[w.heap.size + 1]? = some (tlC zTL (.slice none 0 0)) := by
    rw [Below.heap_setCell _ _ _ _ (by show w.heap.size + 1 ≠ w.heap.size; omega)]; exact hz1
  obtain ⟨d0, d1, d2, d3, -, dl⟩ := tl_cells hl2
  obtain ⟨z0, hz0⟩ : ∃ z : TL, zTL = z := ⟨_, rfl⟩
  obtain ⟨u0, hu0⟩ : ∃ u : Value, .slice none 0 0 = u := ⟨_, rfl⟩
  rw [hz0, hu0] at hz2
  obtain ⟨⟨a1, a2, a3, a4, a5, a6, a7, a8⟩, b1, b2, b3, b4⟩ := pT_facts l (.slice A1 n1 k1) hz2
  have HBF := Lib.hid (pT_below (b := w.heap.size + 1) l (.slice A1 n1 k1) (((hb0.trans (hb1.mono (by simp; omega))).setCell (p := ⟨w.heap.size, 3, none⟩) (Nat.le_refl _) (.slice A1 n1 k1))) (Nat.le_succ _))
  have HO := Lib.hid (show OwnRep 7 (flat Item.enc) 47 w.heap.size (pT4 (w1.setCell ⟨w.heap.size, 3, none⟩ (.slice A1 n1 k1)) (w.heap.size + 1) l (.slice A1 n1 k1)) l.items (.slice A1 n1 k1) from (ho1.keep (fun b hb => by
    have := ho1.own_lt b hb
    have h2 : w.heap.size + 2 ≤ b := by simpa using this.1
    rw [pT_off l (.slice A1 n1 k1) (by omega), Below.heap_setCell _ _ _ _ (by show b ≠ w.heap.size; omega)])).base_le (by simp; omega))
  clear hl1 hl2 hz1 hz2 hb1 ho1 hb0 hz0 hu0
  go_wp2
  refine bodyPost_ret (v := tlV l (.slice A1 n1 k1)) (by simp [results, Tryz.results11, go_sem, b1, b2, b3, b4]) rfl ⟨_, rfl, HO.out, HBF.out⟩
def fewI (x : Item) : Bool := !(decide (100 < x.title.size) || decide (100 < x.digest.size))
def fewT (l : TL) : Bool := !(decide (12 < l.items.length) && !decide (l.items.length = 129)) && l.items.all fewI
set_option maxRecDepth 100000 in
set_option maxHeartbeats 1000000 in
theorem few_c (l : TL) (v : Value) (w : World) (B : Nat) (hB : B ≤ w.heap.size) (h : TLRep w B l v) :
    Calls Tryz.prog 9 #[tlV l v] w fun e w' => e = .returned (.bool (fewT l)) ∧ Below w.heap.size w w' := by
  have b0 : Below w.heap.size w (w.alloc (tlC l v)) := (Below.refl _ _).alloc (Nat.le_refl _) _
  obtain ⟨z0, z1, z2, z3, zl⟩ := tlW_at (Below.refl (w.heap.size + 1) (w.alloc (tlC l v)))
  obtain ⟨A, c, rfl, hc1, hc2, -⟩ := id h
  have HIT := Lib.hid (fun (k : Nat) (x : Item) (hx : l.items[k]? = some x) => Items.at_ (h.below itmS (b0.mono hB)) hx)
  by_cases h1 : 12 < l.items.length ∧ l.items.length ≠ 129
  · have HE := Lib.hid (show fewT l = false by unfold fewT; simp [h1.1, h1.2])
    have hi1 : (12 : Int) < (l.items.length : Int) := by omega
    have hi2 : ((l.items.length : Int) != 129) = true := by simpa using (fun e => h1.2 (by omega) : ¬ (l.items.length : Int) = 129)
    clear h1
    go_enter Tryz.func9, Tryz.ntmps9
    go_wp2
    go_ret
    exact ⟨ret_bool HE.out.symm, b0⟩
  · have HE0 := Lib.hid (show fewT l = (l.items.drop 0).all fewI by
      unfold fewT
      have : (decide (12 < l.items.length) && !decide (l.items.length = 129)) = false := by
        rcases Nat.lt_or_ge 12 l.items.length with h2 | h2
        · have h3 : l.items.length = 129 := Classical.byContradiction fun e => h1 ⟨h2, e⟩
          simp [h3]
        · simp [show ¬ 12 < l.items.length by omega]
      rw [this]; rfl)
    have HG := Lib.hid (show (¬ (12 : Int) < (l.items.length : Int) ∧ True) ∨ ((12 : Int) < (l.items.length : Int) ∧ ((l.items.length : Int) != 129) = false) by
      rcases Nat.lt_or_ge 12 l.items.length with h2 | h2
      · have h3 : l.items.length = 129 := Classical.byContradiction fun e => h1 ⟨h2, e⟩
        right; simp [h3]
      · left; exact ⟨by omega, trivial⟩)
    have hbW : B ≤ (w.alloc (tlC l (.slice A l.items.length c))).heap.size := Nat.le_trans hB b0.size
    clear h1 h
    go_enter Tryz.func9, Tryz.ntmps9
    rcases HG.out with ⟨hg, hg'⟩ | ⟨hg, hg'⟩
    all_goals
      go_wp2
      go_loopw [3] (fun i wr => ∃ k : Nat, k ≤ l.items.length ∧ i = .int .i64 k ∧ Hid (fewT l = (l.items.drop k).all fewI) ∧ wr = w.alloc (tlC l (.slice A l.items.length c))) (fun i _ => l.items.length - (intOf i).toNat)
      case atStart => exact ⟨0, Nat.zero_le _, rfl, HE0, rfl⟩
      case round =>
        obtain ⟨k, hk, rfl, HS, rfl⟩ := hrel
        by_cases hlt : k < l.items.length
        · obtain ⟨x, hx⟩ := get_at l.items hlt
          obtain ⟨b, off, rfl, hbB, g0, g1, g2, g3, g4, g5, g6⟩ := HIT.out k x hx
          have HD := Lib.hid (drop_at hx)
          have hki : (k : Int) < (l.items.length : Int) := by omega
          have hw : IntKind.i64.wrap ((k : Int) + 1) = (k : Int) + 1 := IntWalk.i64_in _ (by omega)
          have hbw : b < (w.alloc (tlC l (.slice (some ⟨b, off, none⟩) l.items.length c))).heap.size := by have : b < B := hbB; omega
          clear hx
          by_cases ht : 100 < x.title.size
          · have HE := Lib.hid (show fewT l = false by rw [HS.out, HD.out]; simp [fewI, ht])
            have hti : (100 : Int) < (x.title.size : Int) := by omega
            go_wp2
            go_ret
            exact ⟨ret_bool HE.out.symm, b0⟩
          · have hti : ¬ (100 : Int) < (x.title.size : Int) := by omega
            by_cases hd : 100 < x.digest.size
            · have HE := Lib.hid (show fewT l = false by rw [HS.out, HD.out]; simp [fewI, hd])
              have hdi : (100 : Int) < (x.digest.size : Int) := by omega
              go_wp2
              go_ret
              exact ⟨ret_bool HE.out.symm, b0⟩
            · have hdi : ¬ (100 : Int) < (x.digest.size : Int) := by omega
              have HE := Lib.hid (show fewT l = (l.items.drop (k + 1)).all fewI by rw [HS.out, HD.out]; simp [fewI, ht, hd])
              go_wp2
              go_roundw
              case rel => exact ⟨k + 1, by omega, by go_num, HE, by first | rfl | trivial⟩
              case measure => simp [intOf]; omega
        · have HE := Lib.hid (show fewT l = true by rw [HS.out, List.drop_of_length_le (by omega)]; rfl)
          have hki : ¬ (k : Int) < (l.items.length : Int) := by omega
          go_wp2
          go_ret
          exact ⟨ret_bool HE.out.symm, b0⟩
end Go.Proofs.YtenaifmkejmdaaaGreatDoor
