/- The program: whether a posting supports its unit for a node, the postings that support a unit. -/
import Derived.Test.YtngodakkdhdmjaaGreatDoorScp
import Derived.Test.YtngodakkdhdmjaaGreatDoorFou
import Derived.Test.YtngodakkdhdmjaaGreatDoorBas
import Derived.Deep.RegionLaw
namespace Go.Proofs.YtngodakkdhdmjaaGreatDoor
open Go.RowKit

theorem postEq (w : World) (x y : Post) : (Op.equal 36 (pstV x) (pstV y)).run Tryz.prog w = .ok (decide (x = y)) w := by
  have hs : ∀ (d : Nat) (xs ys : Array Value), (Op.equalIn (d + 1) 36 (.agg xs) (.agg ys)).run Tryz.prog w = (Op.eqFields d xs ys (Tryz.prog.fieldsOf 36).toList).run Tryz.prog w := fun d xs ys => run_equalIn_struct w d 36 xs ys (by kernel_rfl) (by kernel_rfl)
  have he : decide (x = y) = eqPost x y := by rw [Bool.eq_iff_iff, eqPost_iff, decide_eq_true_iff]
  rw [he]
  simp [Op.equal, Op.maxDepth, hs 9999, Program.fieldsOf, Tryz.underlying36, go_sem, eqPost, str_eq]
  by_cases h0 : x.word = y.word <;> by_cases h1 : x.unit = y.unit <;> by_cases h2 : x.field = y.field <;> by_cases h3 : x.place = y.place <;> simp [h0, h1, h2, h3]
theorem postCheck (w : World) (e : Bool) (k : Post) (n : Nat) : (Instr.checkKey e (n + 2) 36 (pstV k)).run Tryz.prog w = .ok () w := by
  have hS : ∀ s : ByteArray, (Instr.checkKey e (n + 1) 9 (.string s)).run Tryz.prog w = .ok () w := fun s => MapKept.run_checkKey Tryz.underlying9 (by constructor) e n
  have hI : ∀ m : Int, (Instr.checkKey e (n + 1) 3 (.int .i64 m)).run Tryz.prog w = .ok () w := fun m => MapKept.run_checkKey Tryz.underlying3 (by constructor) e n
  unfold Instr.checkKey
  simp only [Sem.run_bind, run_underlying Tryz.underlying36, Result.andThen]
  simp [go_sem, Result.andThen, hS, hI]
theorem postKey : KeyRun Tryz.prog 36 (fun p : Post => pstV p) where
  now := ⟨_, Tryz.underlying36, fun a b => rfl⟩
  same := postEq
  check := fun w e k => postCheck w e k 9998
  bits := fun k => by simp [Instr.sameBits, MapKept.bytes_beq]
theorem zeroBool (w : World) : (zeroValue 4).run Tryz.prog w = .ok (.bool false) w := by kernel_rfl
theorem frs_drop {all : Post → Bool} {p : Post} {l : List ByteArray} {k : Nat} {x : ByteArray} (h : l[k]? = some x) : frsB all p k (l.drop k) = ((decide (k ≠ 0) || decide (x = p.word)) && all ⟨x, p.unit, p.field, p.place + k⟩ && frsB all p (k + 1) (l.drop (k + 1))) := by
  rw [drop_at h, frsB]
theorem pst_cells {W : World} {g : Nat} {x : Post} (h : W.heap[g]? = some (pstC x)) : W.cell? ⟨g, 0, none⟩ = some (.string x.word) ∧ W.cell? ⟨g, 1, none⟩ = some (.int .i64 x.unit) ∧ W.cell? ⟨g, 2, none⟩ = some (.int .i64 x.field) ∧ W.cell? ⟨g, 3, none⟩ = some (.int .i64 x.place) ∧ g < W.heap.size :=
  ⟨by rw [Lib.cell_of_heap h]; rfl, by rw [Lib.cell_of_heap h]; rfl, by rw [Lib.cell_of_heap h]; rfl, by rw [Lib.cell_of_heap h]; rfl, by
    rcases Nat.lt_or_ge g W.heap.size with hl | hl
    · exact hl
    · rw [Array.getElem?_eq_none hl] at h; cases h⟩
theorem heap_newX (w : World) (o : Obj) : ((w.alloc o).drew).heap[w.heap.size]? = some o := by
  show (w.heap.push o)[w.heap.size]? = _
  simp
theorem xput0 {W : World} {g : Nat} {p : Post} (h : W.heap[g]? = some (pstC p)) (t : ByteArray) : (W.setCell ⟨g, 0, none⟩ (.string t)).heap[g]? = some (pstC ⟨t, p.unit, p.field, p.place⟩) := by
  simp [World.setCell, Array.getElem?_modify, h]
theorem xput3 {W : World} {g : Nat} {p : Post} (h : W.heap[g]? = some (pstC p)) (n : Int) : (W.setCell ⟨g, 3, none⟩ (.int .i64 n)).heap[g]? = some (pstC ⟨p.word, p.unit, p.field, n⟩) := by
  simp [World.setCell, Array.getElem?_modify, h]
theorem look_valS {κ ν : Type} [DecidableEq κ] {P : Program} {w : World} {b : Nat} {kenc : κ → Value} {venc : ν → Value} {t kt et : TypeId} (hK : KeyRun P kt kenc) (ht : P.underlying t = some (.map kt et)) {z : Value} (hz : (zeroValue et).run P w = .ok z w)
    {f : κ → Option ν} (h : MapF w b kenc venc f) {k : κ} {val : Value} (h1 : f k = none → z = val) (h2 : ∀ v, f k = some v → venc v = val) : (Instr.lookup t (.map (some b)) (kenc k) false).run P w = .ok val w := by
  have hrun := run_lookup_atS hK ht hz h k false
  rw [hrun]
  cases hf : f k with
  | none => rw [← h1 hf]; rfl
  | some v => rw [← h2 v hf]; rfl
/-- the postings that a map holds -/
def inM (f : Post → Option Bool) (x : Post) : Bool := decide (f x = some true)
theorem inM_none {f : Post → Option Bool} {x : Post} (h : f x = none) : Value.bool false = .bool (inM f x) := by unfold inM; rw [h]; rfl
theorem inM_some {f : Post → Option Bool} {x : Post} {b : Bool} (h : f x = some b) (hb : b = true) : Value.bool b = .bool (inM f x) := by subst hb; unfold inM; rw [h]; rfl
set_option maxRecDepth 100000 in
set_option maxHeartbeats 8000000 in
theorem supports_c (f : Post → Option Bool) (mb : Nat) (p : Post) (a : Ask) (w : World) (hm : MapF w mb (fun x : Post => pstV x) Value.bool f) (hf : ∀ x b, f x = some b → b = true) (hs : a.text.size ≤ 1000000) (hp : 0 ≤ p.place ∧ p.place ≤ 1000000) (hV : VarOk w) :
    Calls Tryz.prog 106 #[.map (some mb), pstV p, askV a] w fun e w' => e = .returned (.bool (supB (inM f) p a)) ∧ Below w.heap.size w w' := by
  have b0 : Below w.heap.size w ((w.alloc (pstC p)).alloc (askC a)) := ((Below.refl _ _).alloc (Nat.le_refl _) _).alloc (by simp) _
  have KC := Lib.hid (fun (W : World) (hW : Below (w.heap.size + 2) ((w.alloc (pstC p)).alloc (askC a)) W) => (⟨(hW.cell (p := ⟨w.heap.size, 0, none⟩) (by simp)).trans (by simp), (hW.cell (p := ⟨w.heap.size, 1, none⟩) (by simp)).trans (by simp), (hW.cell (p := ⟨w.heap.size, 2, none⟩) (by simp)).trans (by simp), (hW.cell (p := ⟨w.heap.size, 3, none⟩) (by simp)).trans (by simp),
    (hW.cell (p := ⟨w.heap.size + 1, 0, none⟩) (by simp)).trans (by simp), (hW.cell (p := ⟨w.heap.size + 1, 1, none⟩) (by simp)).trans (by simp), (hW.cell (p := ⟨w.heap.size + 1, 2, none⟩) (by simp)).trans (by simp), (hW.cell (p := ⟨w.heap.size + 1, 3, none⟩) (by simp)).trans (by simp), by have := hW.size; simp at this; omega⟩ :
    W.cell? ⟨w.heap.size, 0, none⟩ = some (.string p.word) ∧ W.cell? ⟨w.heap.size, 1, none⟩ = some (.int .i64 p.unit) ∧ W.cell? ⟨w.heap.size, 2, none⟩ = some (.int .i64 p.field) ∧ W.cell? ⟨w.heap.size, 3, none⟩ = some (.int .i64 p.place) ∧
    W.cell? ⟨w.heap.size + 1, 0, none⟩ = some (.int .i64 a.op) ∧ W.cell? ⟨w.heap.size + 1, 1, none⟩ = some (.int .i64 a.field) ∧ W.cell? ⟨w.heap.size + 1, 2, none⟩ = some (.int .i64 a.num) ∧ W.cell? ⟨w.heap.size + 1, 3, none⟩ = some (.string a.text) ∧ w.heap.size + 1 < W.heap.size))
  have HUP := Lib.hid (fun (W : World) (hW : Below (w.heap.size + 2) ((w.alloc (pstC p)).alloc (askC a)) W) => b0.trans (hW.mono (by omega)))
  have hs1 : w.heap.size + 2 ≤ ((w.alloc (pstC p)).alloc (askC a)).heap.size := by simp
  have bX : Below (w.heap.size + 2) ((w.alloc (pstC p)).alloc (askC a)) ((w.alloc (pstC p)).alloc (askC a)) := Below.refl _ _
  have HE := Lib.hid (show supB (inM f) p a = ((decide (a.field = 0) || decide (a.field = p.field)) && if a.op = 2 then pfxB a.text p.word else frsB (inM f) p 0 (wntF a.text)) from rfl)
  have HFN := Lib.hid (fun (W : World) => hasPrefix_c p.word a.text W)
  have HSP := Lib.hid (split_c 32 a.text ((w.alloc (pstC p)).alloc (askC a)) hs (hV.below b0))
  have HWL := Lib.hid (show (wntF a.text).length ≤ 1000001 from Nat.le_trans (splB_lt 32 a.text) (by omega))
  have HM := Lib.hid (fun (W : World) (hW : Below w.heap.size w W) => hm.below hW hm.lt)
  rw [show splB 32 a.text = wntF a.text from rfl, show ((w.alloc (pstC p)).alloc (askC a)).heap.size = w.heap.size + 2 by simp] at HSP
  obtain ⟨z0, z1, z2, z3, y0, y1, y2, y3, yl⟩ := KC.out _ bX
  clear hm hV
  cases hc : (decide (a.field = 0) || decide (a.field = p.field))
  · have HN := Lib.hid (show supB (inM f) p a = false by rw [HE.out, hc]; rfl)
    have hc1 : (a.field != 0) = true := by simp at hc ⊢; exact hc.1
    have hc2 : (a.field != p.field) = true := by simp at hc ⊢; exact hc.2
    clear hc HE
    go_enter Tryz.func106, Tryz.ntmps106
    go_wp2
    go_ret
    exact ⟨ret_bool HN.out.symm, b0⟩
  · have HN := Lib.hid (show supB (inM f) p a = if a.op = 2 then pfxB a.text p.word else frsB (inM f) p 0 (wntF a.text) by rw [HE.out, hc]; rfl)
    have hc' : (a.field != 0) = false ∨ ((a.field != 0) = true ∧ (a.field != p.field) = false) := by
      simp only [Bool.or_eq_true, decide_eq_true_eq] at hc
      by_cases h0 : a.field = 0
      · exact .inl (by simp [h0])
      · exact .inr ⟨by simp [h0], by simp [hc.resolve_left h0]⟩
    clear hc HE
    by_cases ho : a.op = 2
    · have ho1 : (a.op == 2) = true := by rw [ho]; rfl
      have HN := Lib.hid (show supB (inM f) p a = pfxB a.text p.word by rw [HN.out, if_pos ho])
      clear ho
      rcases hc' with hc1 | ⟨hc1, hc2⟩
      all_goals
        go_enter Tryz.func106, Tryz.ntmps106
        go_wp2_with fail
        refine (HFN.out _).mono ?_
        rintro e w4 ⟨rfl, rfl⟩
        go_wp2
        go_ret
        exact ⟨ret_bool HN.out.symm, b0⟩
    · have ho1 : (a.op == 2) = false := by simp [ho]
      have H0 := Lib.hid (show supB (inM f) p a = frsB (inM f) p 0 ((wntF a.text).drop 0) by rw [HN.out, if_neg ho]; rfl)
      clear ho HN
      generalize wntF a.text = ws at *
      rcases hc' with hc1 | ⟨hc1, hc2⟩
      all_goals
        go_enter Tryz.func106, Tryz.ntmps106
        go_wp2_with fail
        refine HSP.out.mono ?_
        rintro e w1 ⟨rfl, hsl, hb1, hn1⟩
        have bX := bX.trans hb1
        have hw1 : w1.heap.size = w.heap.size + 3 := by omega
        have HWT := Lib.hid (fun (W : World) (hW : Below w1.heap.size w1 W) => (hsl.monoF strS (F' := fun b => b < w1.heap.size) (fun b hb => by have e : b = w.heap.size + 2 := hb; omega)).below strS hW)
        have HK1 := Lib.hid (fun (W : World) (hW : Below w1.heap.size w1 W) => bX.trans (hW.mono (by omega)))
        have hwl : ws.length ≤ 1000001 := HWL.out
        clear hsl HSP hb1 hn1 bX z0 z1 z2 z3 y0 y1 y2 y3 yl
        go_wp2
        go_loopw [32] (fun i wr => ∃ k : Nat, k ≤ ws.length ∧ i = .int .i64 k ∧ Hid (supB (inM f) p a = frsB (inM f) p k (ws.drop k)) ∧ Below w1.heap.size w1 wr) (fun i _ => ws.length - (intOf i).toNat)
        case atStart => exact ⟨0, Nat.zero_le _, rfl, H0, Below.refl _ _⟩
        case round =>
          clear H0
          obtain ⟨k, hk, rfl, HS, bi⟩ := hrel
          obtain ⟨z0, z1, z2, z3, y0, y1, y2, y3, yl⟩ := KC.out _ (HK1.out _ bi)
          by_cases hlt : k < ws.length
          · obtain ⟨t, ht⟩ := get_at ws hlt
            obtain ⟨bt, ot, hA, hbt, t0⟩ := Strs.at_ (HWT.out _ bi) ht
            injection hA with hA
            injection hA with hA1 hA2
            subst hA1 hA2
            rw [Nat.zero_add] at t0
            have hki : (k : Int) < (ws.length : Int) := by omega
            have hwk : IntKind.i64.wrap ((k : Int) + 1) = (k : Int) + 1 := IntWalk.i64_in _ (by omega)
            have hwp : IntKind.i64.wrap (p.place + (k : Int)) = p.place + (k : Int) := IntWalk.i64_in _ (by omega)
            have HD := Lib.hid (frs_drop (all := inM f) (p := p) ht)
            have hbl : w.heap.size + 2 < wr.heap.size := by have := bi.size; omega
            have bA := (bi.alloc bi.size (pstC p)).drew
            have hA0 : ((wr.alloc (pstC p)).drew).heap[wr.heap.size]? = some (pstC p) := heap_newX wr (pstC p)
            have bB := (bi.alloc bi.size (pstC ⟨t, p.unit, p.field, p.place⟩)).drew
            have hB0 : ((wr.alloc (pstC ⟨t, p.unit, p.field, p.place⟩)).drew).heap[wr.heap.size]? = some (pstC ⟨t, p.unit, p.field, p.place⟩) := heap_newX wr _
            have bC := (bi.alloc bi.size (pstC ⟨t, p.unit, p.field, p.place + (k : Int)⟩)).drew
            have hC0 : ((wr.alloc (pstC ⟨t, p.unit, p.field, p.place + (k : Int)⟩)).drew).heap[wr.heap.size]? = some (pstC ⟨t, p.unit, p.field, p.place + (k : Int)⟩) := heap_newX wr _
            have HC0 := Lib.hid hC0
            have HBC := Lib.hid bC
            obtain ⟨-, -, -, za3, -, -, -, -, zal⟩ := KC.out _ (HK1.out _ bA)
            obtain ⟨-, -, -, zb3, -, -, -, -, zbl⟩ := KC.out _ (HK1.out _ bB)
            obtain ⟨zc0, -, -, zc3, -, -, -, -, zcl⟩ := KC.out _ (HK1.out _ bC)
            obtain ⟨ca0, -, -, ca3, cal⟩ := pst_cells hA0
            obtain ⟨cb0, -, -, cb3, cbl⟩ := pst_cells hB0
            obtain ⟨cc0, cc1, cc2, cc3, ccl⟩ := pst_cells hC0
            have fa := Lib.frozen_of_heap hA0 0
            have fb := Lib.frozen_of_heap hB0 3
            have hlk := look_valS postKey Tryz.underlying138 (zeroBool _) (HM.out _ (HUP.out _ (HK1.out _ bC))) (k := (⟨t, p.unit, p.field, p.place + (k : Int)⟩ : Post)) (fun h => inM_none h) (fun v h => inM_some h (hf _ _ h))
            clear ht hA0 hB0 hC0 bA bB bC
            go_wp2
            go_region_law (fail)
            all_goals
              by_cases hc0 : k = 0 ∧ t ≠ p.word
              · have hk0 : ((k : Int) == 0) = true := by simp [hc0.1]
                have hst : (t.toList == p.word.toList) = false := by rw [str_eq, decide_eq_false hc0.2]
                have HN := Lib.hid (show supB (inM f) p a = false by rw [HS.out, HD.out]; simp [hc0.1, hc0.2])
                clear hc0 HS HD
                go_wp2
                go_ret
                exact ⟨ret_bool HN.out.symm, HUP.out _ (HK1.out _ HBC.out)⟩
              · have hcs : ((k : Int) == 0) = false ∨ (((k : Int) == 0) = true ∧ (t.toList == p.word.toList) = true) := by
                  by_cases hk0 : k = 0
                  · exact .inr ⟨by simp [hk0], by rw [str_eq]; exact decide_eq_true (Decidable.byContradiction fun h => hc0 ⟨hk0, h⟩)⟩
                  · exact .inl (by simp; omega)
                have HX := Lib.hid (show supB (inM f) p a = (inM f ⟨t, p.unit, p.field, p.place + k⟩ && frsB (inM f) p (k + 1) (ws.drop (k + 1))) by
                  rw [HS.out, HD.out]
                  have : (decide (k ≠ 0) || decide (t = p.word)) = true := by
                    rw [Bool.or_eq_true, decide_eq_true_iff, decide_eq_true_iff]
                    by_cases hk0 : k = 0
                    · exact .inr (Decidable.byContradiction fun h => hc0 ⟨hk0, h⟩)
                    · exact .inl hk0
                  rw [this, Bool.true_and])
                clear hc0 HS HD
                cases hin : inM f ⟨t, p.unit, p.field, p.place + k⟩
                all_goals
                  rw [hin] at hlk
                · have HN := Lib.hid (show supB (inM f) p a = false by rw [HX.out, hin]; rfl)
                  clear hin HX
                  rcases hcs with hk0 | ⟨hk0, hst⟩
                  all_goals
                    go_wp2
                    go_ret
                    exact ⟨ret_bool HN.out.symm, HUP.out _ (HK1.out _ HBC.out)⟩
                · have HN := Lib.hid (show supB (inM f) p a = frsB (inM f) p (k + 1) (ws.drop (k + 1)) by rw [HX.out, hin]; rfl)
                  clear hin HX
                  rcases hcs with hk0 | ⟨hk0, hst⟩
                  all_goals
                    go_wp2
                    go_roundw
                    case rel => exact ⟨k + 1, by omega, by go_num, HN, HBC.out⟩
                    case measure => simp [intOf]; omega
          · have hki : ¬ (k : Int) < (ws.length : Int) := by omega
            have HN := Lib.hid (show supB (inM f) p a = true by rw [HS.out, List.drop_of_length_le (by omega)]; rfl)
            go_wp2
            go_ret
            exact ⟨ret_bool HN.out.symm, HUP.out _ (HK1.out _ bi)⟩
end Go.Proofs.YtngodakkdhdmjaaGreatDoor
