/- The program: Divide, whole. -/
import Derived.Test.YtenaifmkejmdaaaGreatDoorDiv
namespace Go.Proofs.YtenaifmkejmdaaaGreatDoor
open Go.RowKit Go.Shelf

abbrev prtW (w : World) (v : Value) (m : Int) : World := (w.alloc (.cells #[v] 22)).alloc (.cells #[.int .i64 m] 3)
theorem parts_c (v : Value) (m : Int) (w : World) (hv : ∃ A n c, v = .slice A n c) : Calls Tryz.prog 37 #[v, .int .i64 m] w fun e w' => e = .returned (.func (.func 62) #[] #[.pointer (some ⟨w.heap.size, 0, none⟩), .pointer (some ⟨w.heap.size + 1, 0, none⟩)]) ∧ prtW w v m = w' := by
  obtain ⟨A, n, c, rfl⟩ := hv
  go_enter Tryz.func37, Tryz.ntmps37
  go_wp2
  go_ret
  exact ⟨rfl, rfl⟩
theorem div_one {l : TL} {p : Int} (h : rightB l = false) : divE l p = 1 ∧ divF l p = [] := by
  have : divE l p = 1 := by unfold divE; rw [if_pos h]
  exact ⟨this, by unfold divF; rw [this]; rfl⟩
theorem div_two {l : TL} {p : Int} (h : rightB l = true) (h1 : inB p 1 100000 = false) : divE l p = 2 ∧ divF l p = [] := by
  have : divE l p = 2 := by unfold divE; rw [if_neg (by rw [h]; decide), if_pos h1]
  exact ⟨this, by unfold divF; rw [this]; rfl⟩
theorem div_15 {l : TL} {p : Int} (h : rightB l = true) (h1 : inB p 1 100000 = true) (h2 : (l.items.any fun x => decide (p < x.pages)) = true) : divE l p = 15 ∧ divF l p = [] := by
  have : divE l p = 15 := by unfold divE; rw [if_neg (by rw [h]; decide), if_neg (by rw [h1]; decide), if_pos h2]
  exact ⟨this, by unfold divF; rw [this]; rfl⟩
theorem div_ok {l : TL} {p : Int} (h : rightB l = true) (h1 : inB p 1 100000 = true) (h2 : (l.items.any fun x => decide (p < x.pages)) = false) : divE l p = 0 ∧ divF l p = partG p 0 0 l.items := by
  have : divE l p = 0 := by unfold divE; rw [if_neg (by rw [h]; decide), if_neg (by rw [h1]; decide), if_neg (by rw [h2]; decide)]
  exact ⟨this, by unfold divF; rw [this]; rfl⟩
theorem prtW_at (w : World) (v : Value) (m : Int) : (prtW w v m).cell? ⟨w.heap.size, 0, none⟩ = some v ∧ (prtW w v m).cell? ⟨w.heap.size + 1, 0, none⟩ = some (.int .i64 m) ∧ (prtW w v m).heap.size = w.heap.size + 2 := by
  have h0 : (prtW w v m).heap[w.heap.size]? = some (.cells #[v] 22) := by
    have := Below.heap_alloc (w.alloc (.cells #[v] 22)) (.cells #[.int .i64 m] 3) w.heap.size (by simp)
    exact this.trans (heap_newA w _)
  have h1 : (prtW w v m).heap[w.heap.size + 1]? = some (.cells #[.int .i64 m] 3) := by
    have := heap_newA (w.alloc (.cells #[v] 22)) (.cells #[.int .i64 m] 3)
    rwa [show (w.alloc (.cells #[v] 22)).heap.size = w.heap.size + 1 by simp] at this
  exact ⟨by rw [Lib.cell_of_heap h0]; rfl, by rw [Lib.cell_of_heap h1]; rfl, by simp⟩
def divR (l : TL) (p : Int) (w : World) (e : Ending) (w' : World) : Prop := ∃ v', e = .returned (.tuple #[v', .int .i64 (divE l p)]) ∧ OwnRep 1 (flat intEnc) 3 w.heap.size w' (divF l p) v' ∧ Below w.heap.size w w'
theorem divR_nil {l : TL} {p : Int} {w w' : World} {n : Int} (h : divE l p = n ∧ divF l p = []) (hb : Below w.heap.size w w') : divR l p w (.returned (.tuple #[.slice none 0 0, .int .i64 n])) w' :=
  ⟨.slice none 0 0, by rw [h.1], by rw [h.2]; exact OwnRep.nil_, hb⟩
abbrev divW (w : World) (l : TL) (v : Value) (p : Int) : World := (w.alloc (tlC l v)).alloc (.cells #[.int .i64 p] 3)
theorem divW_at {w W : World} {l : TL} {v : Value} {p : Int} (hW : Below (w.heap.size + 2) (divW w l v p) W) : W.cell? ⟨w.heap.size, 0, none⟩ = some (.int .i64 l.id) ∧ W.cell? ⟨w.heap.size, 1, none⟩ = some (.int .i64 l.office) ∧ W.cell? ⟨w.heap.size, 2, none⟩ = some (.int .i64 l.day) ∧ W.cell? ⟨w.heap.size, 3, none⟩ = some v ∧ W.cell? ⟨w.heap.size + 1, 0, none⟩ = some (.int .i64 p) ∧ w.heap.size < W.heap.size ∧ w.heap.size + 1 < W.heap.size := by
  have h0 : (divW w l v p).heap[w.heap.size]? = some (tlC l v) := by
    have := Below.heap_alloc (w.alloc (tlC l v)) (.cells #[.int .i64 p] 3) w.heap.size (by simp)
    exact this.trans (heap_newA w _)
  have h1 : (divW w l v p).heap[w.heap.size + 1]? = some (.cells #[.int .i64 p] 3) := by
    have := heap_newA (w.alloc (tlC l v)) (.cells #[.int .i64 p] 3)
    rwa [show (w.alloc (tlC l v)).heap.size = w.heap.size + 1 by simp] at this
  have k0 := (hW.block w.heap.size (by omega)).trans h0
  have k1 := (hW.block (w.heap.size + 1) (by omega)).trans h1
  exact ⟨by rw [Lib.cell_of_heap k0]; rfl, by rw [Lib.cell_of_heap k0]; rfl, by rw [Lib.cell_of_heap k0]; rfl, by rw [Lib.cell_of_heap k0]; rfl, by rw [Lib.cell_of_heap k1]; rfl, heap_ltA k0, heap_ltA k1⟩
set_option maxRecDepth 100000 in
set_option maxHeartbeats 4000000 in
theorem divide_c (l : TL) (v : Value) (p : Int) (w : World) (B : Nat) (hB : B ≤ w.heap.size) (h : TLRep w B l v) (hV : VarOk w) :
    Calls Tryz.prog 13 #[tlV l v, .int .i64 p] w fun e w' => divR l p w e w' := by
  have b0 : Below w.heap.size w (divW w l v p) := ((Below.refl _ _).alloc (Nat.le_refl _) _).alloc (by simp) _
  have KC := Lib.hid (fun (W : World) (hW : Below (w.heap.size + 2) (divW w l v p) W) => divW_at hW)
  have hs0 : (divW w l v p).heap.size = w.heap.size + 2 := by simp
  have HR := Lib.hid (right_c l v (divW w l v p) B (Nat.le_trans hB b0.size) (h.below itmS (b0.mono hB)) (hV.below b0))
  obtain ⟨zi, zo, zd, z3, zp, zl, zm⟩ := KC.out _ (Below.refl _ _)
  have HRp := Lib.hid (fun (W : World) (hW : Below w.heap.size w W) => (h.below itmS (hW.mono hB) : TLRep W B l v))
  obtain ⟨A, c, rfl, -⟩ := id h
  cases hr : rightB l
  · rw [hr] at HR
    have HX := Lib.hid (div_one (p := p) hr)
    go_enter Tryz.func13, Tryz.ntmps13
    go_wp2_with fail
    refine HR.out.mono ?_
    rintro e w1 ⟨rfl, hb1⟩
    go_wp2
    go_ret2
    exact divR_nil HX.out (b0.trans (hb1.mono b0.size))
  · rw [hr] at HR
    have HV := Lib.hid (fun (W : World) (hW : Below (w.heap.size + 2) (divW w l (.slice A l.items.length c) p) W) (x : Item) => (divide1_c x p (w.heap.size + 1) W (KC.out W hW).2.2.2.2.1 (KC.out W hW).2.2.2.2.2.2))
    have hok := right_ok hr
    have HL := Lib.hid hok.len
    have HI := Lib.hid (fun x hx => (hok.item x hx).pages)
    clear hok
    cases hp : inB p 1 100000
    · have HX := Lib.hid (div_two hr hp)
      go_enter Tryz.func13, Tryz.ntmps13
      go_wp2_with fail
      refine HR.out.mono ?_
      rintro e w1 ⟨rfl, hb1⟩
      obtain ⟨qi, qo, qd, q3, qp, ql, qm⟩ := KC.out _ (hb1.mono (by rw [hs0]; omega))
      go_wp2_with fail
      refine (within_c p 1 100000 _).mono ?_
      rintro e w2 ⟨rfl, rfl⟩
      rw [hp]
      go_wp2
      go_ret2
      exact divR_nil HX.out (b0.trans (hb1.mono b0.size))
    · cases ha : l.items.any fun x => decide (p < x.pages)
      · have HX := Lib.hid (div_ok hr hp ha)
        clear hr
        go_enter Tryz.func13, Tryz.ntmps13
        go_wp2_with fail
        refine HR.out.mono ?_
        rintro e w1 ⟨rfl, hb1⟩
        have bK := hb1.mono (show w.heap.size + 2 ≤ _ by rw [hs0]; omega)
        have bW := b0.trans (hb1.mono b0.size)
        obtain ⟨qi, qo, qd, q3, qp, ql, qm⟩ := KC.out _ bK
        go_wp2_with fail
        refine (within_c p 1 100000 _).mono ?_
        rintro e w2 ⟨rfl, rfl⟩
        rw [hp]
        go_wp2_with fail
        refine (itmAny1_c 35 (.pointer (some ⟨w.heap.size + 1, 0, none⟩)) (fun x => decide (p < x.pages)) l.items _ w1 B (Nat.le_trans hB bW.size) (HRp.out _ bW) (fun _ _ => rfl) (fun x W _ hW => HV.out W (bK.trans (hW.mono (by have := bK.size; rw [hs0] at this; omega))) x)).mono ?_
        rintro e w2 ⟨rfl, hb2⟩
        have bK2 := bK.trans (hb2.mono (by have := bK.size; rw [hs0] at this; omega))
        have bW2 := bW.trans (hb2.mono bW.size)
        obtain ⟨qi2, qo2, qd2, q32, qp2, ql2, qm2⟩ := KC.out _ bK2
        rw [ha]
        go_wp2_with fail
        refine (parts_c _ p w2 ⟨_, _, _, rfl⟩).mono ?_
        rintro e w3 ⟨rfl, rfl⟩
        have hW3 : Below w2.heap.size w2 (prtW w2 (.slice A l.items.length c) p) := ((Below.refl _ _).alloc (Nat.le_refl _) _).alloc (by simp) _
        have bW3 := bW2.trans (hW3.mono bW2.size)
        obtain ⟨c0, c1, cs⟩ := prtW_at w2 (.slice A l.items.length c) p
        go_wp2_with fail
        refine (collect_c 62 #[.pointer (some ⟨w2.heap.size, 0, none⟩), .pointer (some ⟨w2.heap.size + 1, 0, none⟩)] (fun _ _ => rfl) (partG p 0 0 l.items) _ (by have := partG_len p l.items 0 0; have := HL.out; omega) (parts1_c p l.items _ w2.heap.size (w2.heap.size + 1) _ B (Nat.le_trans hB bW3.size) (HRp.out _ bW3) (by omega) (by omega) c0 c1 (fun x hx => ⟨by have := HI.out x hx; omega, by have := HI.out x hx; omega⟩) (by have := HL.out; omega))).mono ?_
        rintro e w3 ⟨v', rfl, hown, hb3⟩
        have bW4 := bW3.trans (hb3.mono bW3.size)
        have hbase := bW3.size
        clear c0 c1
        obtain ⟨A', n', c', e9⟩ : ∃ A n c, v' = .slice A n c := by
          obtain ⟨A, c, e, -⟩ := hown.toSl intS
          exact ⟨A, _, c, e⟩
        have HO := Lib.hid (hown.base_le hbase)
        clear hown
        subst e9
        go_wp2
        go_ret2
        exact ⟨_, by rw [HX.out.1]; rfl, by rw [HX.out.2]; exact HO.out, bW4⟩
      · have HX := Lib.hid (div_15 hr hp ha)
        clear hr
        go_enter Tryz.func13, Tryz.ntmps13
        go_wp2_with fail
        refine HR.out.mono ?_
        rintro e w1 ⟨rfl, hb1⟩
        have bK := hb1.mono (show w.heap.size + 2 ≤ _ by rw [hs0]; omega)
        have bW := b0.trans (hb1.mono b0.size)
        obtain ⟨qi, qo, qd, q3, qp, ql, qm⟩ := KC.out _ bK
        go_wp2_with fail
        refine (within_c p 1 100000 _).mono ?_
        rintro e w2 ⟨rfl, rfl⟩
        rw [hp]
        go_wp2_with fail
        refine (itmAny1_c 35 (.pointer (some ⟨w.heap.size + 1, 0, none⟩)) (fun x => decide (p < x.pages)) l.items _ w1 B (Nat.le_trans hB bW.size) (HRp.out _ bW) (fun _ _ => rfl) (fun x W _ hW => HV.out W (bK.trans (hW.mono (by have := bK.size; rw [hs0] at this; omega))) x)).mono ?_
        rintro e w2 ⟨rfl, hb2⟩
        rw [ha]
        go_wp2
        go_ret2
        exact divR_nil HX.out (bW.trans (hb2.mono bW.size))
end Go.Proofs.YtenaifmkejmdaaaGreatDoor
