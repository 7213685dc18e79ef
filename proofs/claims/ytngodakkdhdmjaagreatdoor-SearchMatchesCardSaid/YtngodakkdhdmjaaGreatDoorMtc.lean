/- The program: Match. -/
import Derived.Test.YtngodakkdhdmjaaGreatDoorMat
import Derived.Test.YtngodakkdhdmjaaGreatDoorBas
import Derived.Laws.EntriesVeiled
namespace Go.Proofs.YtngodakkdhdmjaaGreatDoor
open Go.RowKit

/-- words do not lie in a block that holds one slice -/
theorem strs_off {W : World} {F : Nat → Prop} {xs : List ByteArray} {v : Value} {go : Nat} {A : Option Addr} {n c : Nat} {t : TypeId} {fz : Nat × Nat} (hgo : W.heap[go]? = some (.cells #[.slice A n c] t fz)) (h : SlRep 1 (flat strEnc) W F xs v) : SlRep 1 (flat strEnc) W (fun b => F b ∧ b ≠ go) xs v := by
  obtain ⟨A', c', e, h1, h2, h3⟩ := h
  refine ⟨A', c', e, h1, h2, fun i x hx => ?_⟩
  obtain ⟨b, off, cs, hA, hF, hr, hc⟩ := h3 i x hx
  refine ⟨b, off, cs, hA, ⟨hF, ?_⟩, hr, hc⟩
  rintro rfl
  have h0 := hc 0 (.string x) (by rw [hr]; rfl)
  rw [Lib.cell_of_heap hgo] at h0
  generalize off + i * 1 + 0 = q at h0
  rcases q with _ | q
  · simp at h0
  · simp at h0
theorem wds_row_set {e : TypeId} {base : Nat} {W : World} {l : List Wds} {v u : Value} {go : Nat} {A : Option Addr} {n c : Nat} {t : TypeId} {fz : Nat × Nat} (h : OwnRep 2 wdsR e base W l v) (hgo : W.heap[go]? = some (.cells #[.slice A n c] t fz)) (hne : v.ownBlock ≠ some go) : OwnRep 2 wdsR e base (W.setCell ⟨go, 0, none⟩ u) l v := by
  obtain ⟨css, hl, hr, hown⟩ := h
  refine ⟨css, hl, fun i x cs hx hcs => ?_, ownsRow_frame hown fun b hb => Below.heap_setCell _ _ _ _ (by rintro rfl; exact hne hb)⟩
  obtain ⟨v', h1, h2⟩ := hr i x cs hx hcs
  refine ⟨v', h1, ?_⟩
  have h4 := (strs_off hgo h2).frame strS (w' := W.setCell ⟨go, 0, none⟩ u) (fun b hb => Below.heap_setCell _ _ _ _ hb.2)
  exact h4.monoF strS (fun b hb => ⟨by simpa [World.setCell] using hb.1.1, hb.1.2⟩)
/-- the words of the fields, in their box; what was laid before -/
structure FldAt (w0 w7 : World) (go b5 : Nat) (v : Value) (l : List Wds) (W : World) : Prop where
  blk : W.heap[go]? = some (.cells #[v] 110 (0, 0))
  row : OwnRep 2 wdsR 109 w0.heap.size W l v
  ne : v.ownBlock ≠ some go
  lo : w0.heap.size ≤ go
  below : Below w0.heap.size w0 W
  kept : ∀ b, b < w7.heap.size → b ≠ go → b ≠ b5 → W.heap[b]? = w7.heap[b]?
  own : ∀ b, v.ownBlock = some b → b = b5 ∨ w7.heap.size ≤ b
  sz : w7.heap.size ≤ W.heap.size
theorem heap_ltM {W : World} {g : Nat} {o : Obj} (h : W.heap[g]? = some o) : g < W.heap.size := by
  rcases Nat.lt_or_ge g W.heap.size with hl | hl
  · exact hl
  · rw [Array.getElem?_eq_none hl] at h; cases h
theorem cell_grownM {w w' : World} {ob : Option Nat} (h : w.grownBy w' ob) {p : Addr} (hb : p.block < w.heap.size) (hne : some p.block ≠ ob) : w'.cell? p = w.cell? p := World.cell?_of_block (w := w) (h.block p.block hb hne)
section
variable {w0 w7 W W' w6 : World} {go b5 : Nat} {v v' : Value} {l : List Wds}
theorem FldAt.call (h : FldAt w0 w7 go b5 v l W) (hb : Below W.heap.size W W') : FldAt w0 w7 go b5 v l W' :=
  ⟨(hb.block _ (heap_ltM h.blk)).trans h.blk, h.row.below wdsS hb, h.ne, h.lo, h.below.trans (hb.mono h.below.size), fun b h1 h2 h3 => (hb.block b (Nat.lt_of_lt_of_le h1 h.sz)).trans (h.kept b h1 h2 h3), h.own, Nat.le_trans h.sz hb.size⟩
theorem FldAt.app (h : FldAt w0 w7 go b5 v l W) {ys : List Wds} (hown : OwnRep 2 wdsR 109 w0.heap.size w6 (l ++ ys) v') (hg : W.grownBy w6 v.ownBlock) (hat : v'.ownBlock = v.ownBlock ∨ v'.ownBlock = some W.heap.size) :
    FldAt w0 w7 go b5 v' (l ++ ys) (w6.setCell ⟨go, 0, none⟩ v') := by
  have hlt := h.row.own_lt
  have hgl := heap_ltM h.blk
  have hlo := h.lo
  obtain ⟨A, n, c, e, -⟩ := own_form wdsS h.row
  have h6 : w6.heap[go]? = some (.cells #[v] 110 (0, 0)) := (hg.block go hgl (fun e => h.ne e.symm)).trans h.blk
  have hne : v'.ownBlock ≠ some go := by
    rcases hat with e | e
    · rw [e]; exact h.ne
    · rw [e]; intro e2; injection e2 with e2; omega
  refine ⟨by simp [World.setCell, Array.getElem?_modify, h6], wds_row_set hown (by rw [h6, e]) hne, hne, hlo, (h.below.grown hg h.below.size (fun k hk => (hlt k hk).1)).setCell hlo _, fun b h1 h2 h3 => ?_, fun b hb => ?_, ?_⟩
  · rw [Below.heap_setCell _ _ _ _ (show b ≠ go from h2), hg.block b (Nat.lt_of_lt_of_le h1 h.sz) (fun e => by rcases h.own b e.symm with h9 | h9 <;> omega)]
    exact h.kept b h1 h2 h3
  · rcases hat with e | e
    · rw [e] at hb; exact h.own b hb
    · rw [e] at hb; injection hb with hb; exact .inr (by rw [← hb]; exact h.sz)
  · have := hg.size
    have := h.sz
    simp [World.setCell]; omega
theorem FldAt.cells (h : FldAt w0 w7 go b5 v l W) : W.cell? ⟨go, 0, none⟩ = some v ∧ W.frozen? ⟨go, 0, none⟩ = false ∧ go < W.heap.size :=
  ⟨by rw [Lib.cell_of_heap h.blk]; rfl, Lib.frozen_of_heap h.blk 0, heap_ltM h.blk⟩
theorem FldAt.old (h : FldAt w0 w7 go b5 v l W) (hg : W.grownBy w6 v.ownBlock) : w6.cell? ⟨go, 0, none⟩ = some v :=
  (cell_grownM hg h.cells.2.2 (fun e => h.ne e.symm)).trans h.cells.1
theorem FldAt.base_ (h : FldAt w0 w7 go b5 v l W) : w0.heap.size ≤ W.heap.size := h.below.size
theorem FldAt.frz (h : FldAt w0 w7 go b5 v l W) (hg : W.grownBy w6 v.ownBlock) : w6.frozen? ⟨go, 0, none⟩ = false :=
  Lib.frozen_of_heap ((hg.block go (heap_ltM h.blk) (fun e => h.ne e.symm)).trans h.blk) 0
end
theorem wds_one {w3 : World} (el : Int) {xs : List ByteArray} {v3 : Value} {F3 : Nat → Prop} (h : SlRep 1 (flat strEnc) w3 F3 xs v3) (hF : ∀ b, F3 b → b < w3.heap.size) : SlRep 2 wdsR (w3.alloc (wdsC ⟨el, xs⟩ v3)) (fun b => F3 b ∨ b = w3.heap.size) [(⟨el, xs⟩ : Wds)] (.slice (some ⟨w3.heap.size, 0, none⟩) 1 1) :=
  SlRep.one_new wdsS rfl ⟨v3, rfl, h⟩ hF
theorem wds_off {v v3 : Value} {n m : Nat} {w3 : World} {o : Obj} (h : ∀ b, v.ownBlock = some b → b < n) (h3 : ∀ b, v3.ownBlock = some b → m ≤ b ∧ b < w3.heap.size) (hn : n ≤ m) (hs : m ≤ w3.heap.size) (c : Nat) (h1 : v3.ownBlock = some c ∨ c = w3.heap.size) : c < (w3.alloc o).heap.size ∧ v.ownBlock ≠ some c := by
  rcases h1 with h1 | rfl
  · have := h3 c h1
    exact ⟨by simp; omega, fun e => by have := h c e; omega⟩
  · exact ⟨by simp, fun e => by have := h _ e; omega⟩
theorem fld_new {w5 : World} {base : Nat} {xs : List ByteArray} {v3 : Value} (h : SlRep 1 (flat strEnc) w5 (fun b => v3.ownBlock = some b) xs v3) (hlt : ∀ b, v3.ownBlock = some b → b < w5.heap.size) (hb : base ≤ w5.heap.size) (el : Int) :
    OwnRep 2 wdsR 109 base (w5.alloc (wdsC ⟨el, xs⟩ v3)) [(⟨el, xs⟩ : Wds)] (.slice (some ⟨w5.heap.size, 0, none⟩) 1 1) := by
  refine ⟨[[.int .i64 el, v3]], rfl, fun i x cs hx hcs => ?_, ?_⟩
  · rcases i with _ | i
    · injection hx with hx
      injection hcs with hcs
      subst hx hcs
      exact ⟨v3, rfl, (h.frame strS (fun b hb => Below.heap_alloc _ _ _ (hlt b hb))).monoF strS (fun b hb => ⟨by have := hlt b hb; simp; omega, fun e => by have e' : some w5.heap.size = some b := e; injection e' with e'; have := hlt b hb; omega⟩)⟩
    · simp at hx
  · exact ⟨by simp, .inr ⟨w5.heap.size, 1, #[.int .i64 el, v3], rfl, hb, heap_newN _ _, Nat.le_refl _, by unfold maxLen; omega, by simp, by simp⟩⟩
/-- the fields of a unit, the first k facts of them -/
def fldK (t : ByteArray) (fs : List Fact) (k : Nat) : List Wds := ⟨-1, wordsF t⟩ :: (fs.take k).map fun f => ⟨f.el, wordsF f.text⟩
theorem fldK_succ {t : ByteArray} {fs : List Fact} {k : Nat} {f : Fact} (h : fs[k]? = some f) : fldK t fs k ++ [(⟨f.el, wordsF f.text⟩ : Wds)] = fldK t fs (k + 1) := by
  unfold fldK
  rw [take_at h, List.map_append]
  rfl
theorem fldK_len (t : ByteArray) (fs : List Fact) (k : Nat) : (fldK t fs k).length ≤ fs.length + 1 := by
  unfold fldK
  rw [List.length_cons, List.length_map, List.length_take]
  omega
theorem mat1_c (u : Int) (g : Nat) (x : Sheet) (vf : Value) (hvf : ∃ A n c, vf = .slice A n c) (w : World) (h0 : w.cell? ⟨g, 0, none⟩ = some (.int .i64 u)) (hg : g < w.heap.size) :
    Calls Tryz.prog 69 #[.agg #[.int .i64 x.unit, .int .i64 x.parent, .int .i64 x.level, .string x.mark, .string x.title, vf], .pointer (some ⟨g, 0, none⟩)] w fun e w' => e = .returned (.bool (decide (x.unit = u))) ∧ Below w.heap.size w w' := by
  obtain ⟨A, n, c, rfl⟩ := hvf
  have hb : ∀ o, Below w.heap.size w (w.alloc o) := fun o => (Below.refl _ _).alloc (Nat.le_refl _) o
  have h1 := fun o => (hb o).cell (p := ⟨g, 0, none⟩) hg |>.trans h0
  have HE := Lib.hid (show decide (x.unit = u) = (x.unit == u) by rw [Bool.eq_iff_iff]; simp)
  have h2 := h1 (shtC x (.slice A n c))
  go_enter Tryz.func69, Tryz.ntmps69
  go_wp2
  go_ret
  exact ⟨ret_bool HE.out.symm, hb _⟩
/-- what Match returns -/
def mtE (c : Cat) (s : ByteArray) (u : Int) (q : List Ask) : Int := if catE c ≠ 0 ∨ askE q ≠ 0 then 1 else if hasS c.langs s = false then 10 else if shtIx c.sheets u < 0 then 7 else 0
def mtB (c : Cat) (s : ByteArray) (u : Int) (q : List Ask) (Q : Qt) : Bool := if mtE c s u q = 0 then ((c.sheets[(shtIx c.sheets u).toNat]?).map (mchB c s (undB c) Q)).getD false else false
theorem mt_at {c : Cat} {s : ByteArray} {u : Int} {q : List Ask} {Q : Qt} {k : Nat} {x : Sheet} (h0 : catE c = 0) (h1 : askE q = 0) (h2 : hasS c.langs s = true) (hi : shtIx c.sheets u = (k : Int)) (hx : c.sheets[k]? = some x) : mtE c s u q = 0 ∧ mtB c s u q Q = mchB c s (undB c) Q x := by
  have e : mtE c s u q = 0 := by
    unfold mtE
    rw [if_neg (by simp [h0, h1]), if_neg (by simp [h2]), if_neg (by omega)]
  refine ⟨e, ?_⟩
  unfold mtB
  rw [if_pos e, hi, Int.toNat_natCast, hx]
  rfl
theorem mt_no {c : Cat} {s : ByteArray} {u : Int} {q : List Ask} {Q : Qt} {e : Int} (h : mtE c s u q = e) (he : e ≠ 0) : mtB c s u q Q = false := by
  unfold mtB
  rw [h, if_neg he]
abbrev mtO (c1 c2 c3 vl : Value) (u : Int) (w : World) : World := ((w.alloc (catC c1 c2 c3)).alloc (.cells #[.int .i64 u] 3)).alloc (.cells #[vl] 42)
theorem mtO_at {c1 c2 c3 vl : Value} {u : Int} {w W : World} (hW : Below (w.heap.size + 3) (mtO c1 c2 c3 vl u w) W) : W.cell? ⟨w.heap.size, 0, none⟩ = some c1 ∧ W.cell? ⟨w.heap.size, 1, none⟩ = some c2 ∧ W.cell? ⟨w.heap.size, 2, none⟩ = some c3 ∧ W.cell? ⟨w.heap.size + 1, 0, none⟩ = some (.int .i64 u) ∧ W.cell? ⟨w.heap.size + 1 + 1, 0, none⟩ = some vl ∧ w.heap.size + 1 + 1 < W.heap.size := by
  have h0 : (mtO c1 c2 c3 vl u w).heap[w.heap.size]? = some (catC c1 c2 c3) := by
    rw [Below.heap_alloc _ _ _ (by simp; omega), Below.heap_alloc _ _ _ (by simp)]
    exact heap_newN w _
  have h1 : (mtO c1 c2 c3 vl u w).heap[w.heap.size + 1]? = some (.cells #[.int .i64 u] 3) := by
    rw [Below.heap_alloc _ _ _ (by simp)]
    have := heap_newN (w.alloc (catC c1 c2 c3)) (.cells #[.int .i64 u] 3)
    simpa only [World.size_alloc] using this
  have h2 : (mtO c1 c2 c3 vl u w).heap[w.heap.size + 1 + 1]? = some (.cells #[vl] 42) := by
    have := heap_newN ((w.alloc (catC c1 c2 c3)).alloc (.cells #[.int .i64 u] 3)) (.cells #[vl] 42)
    simpa only [World.size_alloc] using this
  have g0 := (hW.block _ (by omega)).trans h0
  have g1 := (hW.block _ (by omega)).trans h1
  have g2 := (hW.block _ (by omega)).trans h2
  exact ⟨by rw [Lib.cell_of_heap g0]; rfl, by rw [Lib.cell_of_heap g0]; rfl, by rw [Lib.cell_of_heap g0]; rfl, by rw [Lib.cell_of_heap g1]; rfl, by rw [Lib.cell_of_heap g2]; rfl, heap_ltM g2⟩
set_option maxRecDepth 100000 in
set_option maxHeartbeats 16000000 in
theorem qmatch_c (c : Cat) (s : ByteArray) (u : Int) (q : List Ask) (Q : Qt) (v1 v2 v3 vq : Value) (w : World) (B : Nat) (hB : B ≤ w.heap.size) (h : CatRep w B c v1 v2 v3) (hq : Asks w B q vq) (hQ : askE q = 0 → Q.Fit ∧ Q.ls = q) (hs : ∀ a ∈ q, a.text.size ≤ 1000000) (h14 : catE c = 0 → c.sheets.length ≤ 14) (hV : VarOk w) :
    Calls Tryz.prog 26 #[.agg #[v1, v2, v3], .string s, .int .i64 u, vq] w fun e w' => e = .returned (.tuple #[.bool (mtB c s u q Q), .int .i64 (mtE c s u q)]) ∧ Below w.heap.size w w' := by
  have b1 : Below w.heap.size w (mtO v1 v2 v3 vq u w) := (((Below.refl _ _).alloc (Nat.le_refl _) _).alloc (by simp) _).alloc (by simp; omega) _
  have hb0 : Below (w.heap.size + 3) (mtO v1 v2 v3 vq u w) (mtO v1 v2 v3 vq u w) := Below.refl _ _
  have hsO : w.heap.size + 3 ≤ (mtO v1 v2 v3 vq u w).heap.size := by simp
  have KC := Lib.hid (fun (W : World) (hW : Below (w.heap.size + 3) (mtO v1 v2 v3 vq u w) W) => mtO_at hW)
  have HUP := Lib.hid (fun (W : World) (hW : Below (w.heap.size + 3) (mtO v1 v2 v3 vq u w) W) => b1.trans (hW.mono (Nat.le_add_right _ 3)))
  have HC := Lib.hid (fun (W : World) (hW : Below w.heap.size w W) => Check_c c v1 v2 v3 W B (Nat.le_trans hB hW.size) (h.below (hW.mono hB)))
  have HA := Lib.hid (fun (W : World) (hW : Below w.heap.size w W) => qcheck_c q vq W B (Nat.le_trans hB hW.size) (hq.below askS (hW.mono hB)) hs (hV.below hW))
  have HS := Lib.hid (fun (W : World) (hW : Below w.heap.size w W) => scontains_c s c.langs v1 W (fun b => b < B) (fun b hb => by have : b < B := hb; have := hW.size; omega) (h.langs.below strS (hW.mono hB)))
  have HIX := Lib.hid (fun (W : World) (hW : Below (w.heap.size + 3) (mtO v1 v2 v3 vq u w) W) => shtIdx1_c 69 (.pointer (some ⟨w.heap.size + 1, 0, none⟩)) (fun x => decide (x.unit = u)) c.sheets v3 W B (Nat.le_trans hB (HUP.out W hW).size) (h.sheets.below shtS ((HUP.out W hW).mono hB)) (fun _ _ => by kernel_rfl) (fun x vf W' _ hW' hvf _ => by
    obtain ⟨_, _, _, k3, _, k4⟩ := KC.out _ (hW.trans (hW'.mono (by have := hW.size; simp at this; omega)))
    exact mat1_c u (w.heap.size + 1) x vf hvf W' k3 (by omega)))
  by_cases h0 : catE c = 0
  · rw [h0] at HC
    by_cases h1 : askE q = 0
    · rw [h1] at HA
      cases h2 : hasS c.langs s
      · have HE := Lib.hid (show mtE c s u q = 10 by unfold mtE; rw [if_neg (by simp [h0, h1]), if_pos h2])
        have HE2 := Lib.hid (mt_no (Q := Q) HE.out (by decide))
        have hh' : (c.langs.any fun x => decide (x = s)) = false := h2
        rw [hh'] at HS
        obtain ⟨A1, d1, rfl, -⟩ := id h.langs
        obtain ⟨A2, d2, rfl, -⟩ := id h.labels
        obtain ⟨A3, d3, rfl, -⟩ := id h.sheets
        obtain ⟨Aq, dq, rfl, -⟩ := id hq
        clear h0 h1 h2 hh' h hq hQ hs h14 hV HIX
        go_enter Tryz.func26, Tryz.ntmps26
        go_wp2_with fail
        refine (HC.out _ b1).mono ?_
        rintro e w1 ⟨rfl, hb1⟩
        have hbX := bnd_call hb0 hsO hb1
        obtain ⟨z0, z1, z2, z3, z4, zl⟩ := KC.out _ hbX
        go_wp2_with fail
        refine (HA.out _ (HUP.out _ hbX)).mono ?_
        rintro e w2 ⟨rfl, hb2⟩
        have hbX := bnd_call hbX hsO hb2
        clear z0 z1 z2 z3 z4 zl
        obtain ⟨z0, z1, z2, z3, z4, zl⟩ := KC.out _ hbX
        go_wp2_with fail
        refine (HS.out _ (HUP.out _ hbX)).mono ?_
        rintro e w3 ⟨rfl, rfl⟩
        go_wp2
        go_ret2
        exact ⟨by rw [HE.out, HE2.out]; rfl, HUP.out _ hbX⟩
      · have hh' : (c.langs.any fun x => decide (x = s)) = true := h2
        rw [hh'] at HS
        obtain ⟨A1, d1, rfl, -⟩ := id h.langs
        obtain ⟨A2, d2, rfl, -⟩ := id h.labels
        obtain ⟨A3, d3, rfl, -⟩ := id h.sheets
        obtain ⟨Aq, dq, rfl, -⟩ := id hq
        rcases idxF_cases (fun x : Sheet => decide (x.unit = u)) c.sheets with ⟨hi1, -⟩ | ⟨k, x, hi1, hx, hxu, -⟩
        · have hi : shtIx c.sheets u = -1 := hi1
          have HE := Lib.hid (show mtE c s u q = 7 by unfold mtE; rw [if_neg (by simp [h0, h1]), if_neg (by simp [h2]), if_pos (by omega)])
          have HE2 := Lib.hid (mt_no (Q := Q) HE.out (by decide))
          rw [hi1] at HIX
          clear h0 h1 h2 hh' h hq hQ hs h14 hV hi1 hi
          go_enter Tryz.func26, Tryz.ntmps26
          go_wp2_with fail
          refine (HC.out _ b1).mono ?_
          rintro e w1 ⟨rfl, hb1⟩
          have hbX := bnd_call hb0 hsO hb1
          obtain ⟨z0, z1, z2, z3, z4, zl⟩ := KC.out _ hbX
          go_wp2_with fail
          refine (HA.out _ (HUP.out _ hbX)).mono ?_
          rintro e w2 ⟨rfl, hb2⟩
          have hbX := bnd_call hbX hsO hb2
          clear z0 z1 z2 z3 z4 zl
          obtain ⟨z0, z1, z2, z3, z4, zl⟩ := KC.out _ hbX
          go_wp2_with fail
          refine (HS.out _ (HUP.out _ hbX)).mono ?_
          rintro e w3 ⟨rfl, rfl⟩
          go_wp2_with fail
          refine (HIX.out _ hbX).mono ?_
          rintro e w4 ⟨rfl, hb4⟩
          have hbX := bnd_call hbX hsO hb4
          go_wp2
          go_ret2
          exact ⟨by rw [HE.out, HE2.out]; rfl, HUP.out _ hbX⟩
        · have hi : shtIx c.sheets u = (k : Int) := hi1
          rw [hi1] at HIX
          have hkl := lt_of_at hx
          obtain rfl : x.unit = u := by simpa using hxu
          obtain ⟨hE1, hE2⟩ := mt_at (Q := Q) h0 h1 h2 hi hx
          have HE := Lib.hid hE1
          have HE2 := Lib.hid hE2
          have hki0 : (0 : Int) ≤ (k : Int) := by omega
          have hki1 : (k : Int) < (c.sheets.length : Int) := by omega
          have hki2 : decide ((k : Int) < 0) = false := by simp
          obtain ⟨hc32, hcm⟩ := chosen_facts (s := s) h0 hi hx
          have htl := ((catE_zero h0).2.2.2 x (List.mem_of_getElem? hx)).2.1.2.2
          have HCH := Lib.hid (fun (W : World) (hW : Below w.heap.size w W) => Choose_c c x.unit s (.slice A1 c.langs.length d1) (.slice A2 c.labels.length d2) (.slice A3 c.sheets.length d3) W B (Nat.le_trans hB hW.size) (h.below (hW.mono hB)))
          have HX := Lib.hid (fun (W : World) (hW : Below w.heap.size w W) => Sheets.at_ (h.sheets.below shtS (hW.mono hB)) hx)
          have HWT := Lib.hid (fun (W : World) => words_c x.title W (by omega))
          have HFS := Lib.hid (show fldF c s x = fldK x.title (chooseR c x.unit s) (chooseR c x.unit s).length by unfold fldF fldK; rw [List.take_length])
          have HFL := Lib.hid (fun (f : Fact) (hf : f ∈ chooseR c x.unit s) => (hcm f hf).2.2.2)
          generalize hfs : chooseR c x.unit s = fs at *
          have h1' := h1
          clear h1 h2 hh' hi1 hi hE1 hE2 hcm hxu
          go_enter Tryz.func26, Tryz.ntmps26
          go_wp2_with fail
          refine (HC.out _ b1).mono ?_
          rintro e w1 ⟨rfl, hb1⟩
          have hbX := bnd_call hb0 hsO hb1
          obtain ⟨z0, z1, z2, z3, z4, zl⟩ := KC.out _ hbX
          go_wp2_with fail
          refine (HA.out _ (HUP.out _ hbX)).mono ?_
          rintro e w2 ⟨rfl, hb2⟩
          have hbX := bnd_call hbX hsO hb2
          clear z0 z1 z2 z3 z4 zl
          obtain ⟨z0, z1, z2, z3, z4, zl⟩ := KC.out _ hbX
          go_wp2_with fail
          refine (HS.out _ (HUP.out _ hbX)).mono ?_
          rintro e w3 ⟨rfl, rfl⟩
          go_wp2_with fail
          refine (HIX.out _ hbX).mono ?_
          rintro e w4 ⟨rfl, hb4⟩
          have hbX := bnd_call hbX hsO hb4
          clear z0 z1 z2 z3 z4 zl hb1 hb2 hb4
          obtain ⟨z0, z1, z2, z3, z4, zl⟩ := KC.out _ hbX
          obtain ⟨b, off, vf, e9, hbB, g0, g1, g2, g3, g4, g5, hvf⟩ := HX.out _ (HUP.out _ hbX)
          cases e9
          have hbw : b < w4.heap.size := by have := (HUP.out _ hbX).size; have : b < B := hbB; omega
          obtain ⟨Af, cf, rfl, -⟩ := id hvf
          go_wp2_with fail
          have bS : Below w4.heap.size w4 (w4.alloc (shtC x (.slice Af x.facts.length cf))) := (Below.refl _ _).alloc (Nat.le_refl _) _
          have hbX := bnd_call hbX hsO bS
          have hsS : w.heap.size + 3 ≤ w4.heap.size := by omega
          clear z0 z1 z2 z3 z4
          refine (HWT.out _).mono ?_
          rintro e w5 ⟨vt, rfl, ht5, hb5⟩
          have hs5 := ht5.toFlat strS
          have hlo5 := ht5.own_lt
          obtain ⟨At, nt, ct, rfl, hnt⟩ := own_form strS ht5
          have hbX5 := bnd_call hbX hsO hb5
          obtain ⟨z0, z1, z2, z3, z4, zl'⟩ := KC.out _ hbX5
          have zl0 := Nat.lt_of_succ_lt zl'
          have zl00 := Nat.lt_of_succ_lt zl0
          go_wp2_with fail
          have oF : Below w5.heap.size w5 ((w5.alloc (wdsC ⟨-1, wordsF x.title⟩ (.slice At nt ct))).alloc (.cells #[.slice (some ⟨w5.heap.size, 0, none⟩) 1 1] 110)) := ((Below.refl _ _).alloc (Nat.le_refl _) _).alloc (by simp) _
          have hsw5 : w4.heap.size + 1 ≤ w5.heap.size := by have := hb5.size; simp at this; omega
          have hF0 : FldAt (w4.alloc (shtC x (.slice Af x.facts.length cf))) w5 (w5.heap.size + 1) w5.heap.size (.slice (some ⟨w5.heap.size, 0, none⟩) 1 1) (fldK x.title fs 0) ((w5.alloc (wdsC ⟨-1, wordsF x.title⟩ (.slice At nt ct))).alloc (.cells #[.slice (some ⟨w5.heap.size, 0, none⟩) 1 1] 110)) :=
            ⟨by have := heap_newN (w5.alloc (wdsC ⟨-1, wordsF x.title⟩ (.slice At nt ct))) (.cells #[.slice (some ⟨w5.heap.size, 0, none⟩) 1 1] 110); simpa only [World.size_alloc] using this,
              (fld_new hs5 (fun b hb => (hlo5 b hb).2) (by simp; omega) (-1)).below wdsS ((Below.refl _ _).alloc (Nat.le_refl _) _), by simp [Value.ownBlock], by simp; omega, hb5.trans (oF.mono hb5.size), fun b h1 _ _ => oF.block b h1, fun b hb => .inl (by injection hb with hb; exact hb.symm), oF.size⟩
          have hbXF := bnd_call hbX5 hsO oF
          refine (HCH.out _ (HUP.out _ hbXF)).mono ?_
          rintro e w7 ⟨vfs, rfl, hf7, hb7⟩
          have hF7 := hF0.call hb7
          have hF7 : FldAt (w4.alloc (shtC x (.slice Af x.facts.length cf))) w7 (w5.heap.size + 1) w5.heap.size (.slice (some ⟨w5.heap.size, 0, none⟩) 1 1) (fldK x.title fs 0) w7 := ⟨hF7.blk, hF7.row, hF7.ne, hF7.lo, hF7.below, fun _ _ _ _ => rfl, fun b hb => .inl (by injection hb with hb; exact hb.symm), Nat.le_refl _⟩
          have hlf := hf7.own_lt
          have HFC := Lib.hid (fun (W : World) (hk : ∀ b, b < w7.heap.size → b ≠ w5.heap.size + 1 → b ≠ w5.heap.size → W.heap[b]? = w7.heap[b]?) => (hf7.toFlat fctS).frame fctS (w' := W) (fun b hb => hk b (hlf b hb).2 (by have := (hlf b hb).1; simp at this; omega) (by have := (hlf b hb).1; simp at this; omega)))
          have HFO := Lib.hid (fun b (hb : vfs.ownBlock = some b) => (hlf b hb).2)
          obtain ⟨Afs, nfs, cfs, rfl, hnf⟩ := own_form fctS hf7
          have HNF := Lib.hid hnf
          have hfsl : fs.length ≤ 1000000 := by omega
          have HBX := Lib.hid (fun (W : World) (hW : Below (w4.alloc (shtC x (.slice Af x.facts.length cf))).heap.size (w4.alloc (shtC x (.slice Af x.facts.length cf))) W) => bnd_call hbX hsO hW)
          rw [hnf.out]
          clear hlf hf7 hF0 oF hbXF hb5 hb7 ht5 hs5 hlo5 hnf hnt z0 z1 z2 z3 z4 zl' zl0 zl00 zl hbX5 bS hvf g0 g1 g2 g3 g4 g5 HCH HIX HS HA HC HWT hb0 hki0 hki1 hki2
          go_wp2
          go_loopw [50] (fun i wr => ∃ (k2 : Nat) (v : Value), k2 ≤ fs.length ∧ i = .int .i64 k2 ∧ FldAt (w4.alloc (shtC x (.slice Af x.facts.length cf))) w7 (w5.heap.size + 1) w5.heap.size v (fldK x.title fs k2) wr) (fun i _ => fs.length - (intOf i).toNat)
          case atStart => exact ⟨0, _, Nat.zero_le _, rfl, hF7⟩
          case round =>
            clear hF7
            obtain ⟨k2, v', hk, rfl, hFA⟩ := hrel
            by_cases hlt : k2 < fs.length
            · obtain ⟨f, hf⟩ := get_at fs hlt
              have hsf := HFC.out wr hFA.kept
              rw [HNF.out] at hsf
              obtain ⟨bf, of_, rfl, hbF, q0, q1, q2⟩ := Facts.at_ hsf hf
              have hbwf : bf < wr.heap.size := Nat.lt_of_lt_of_le (HFO.out bf hbF) hFA.sz
              have hki : (k2 : Int) < (fs.length : Int) := by omega
              have hwk : IntKind.i64.wrap ((k2 : Int) + 1) = (k2 : Int) + 1 := IntWalk.i64_in _ (by omega)
              have hx1 : Below wr.heap.size wr (wr.alloc (fctO f)) := (Below.refl _ _).alloc (Nat.le_refl _) _
              have hFA1 := hFA.call hx1
              have HSX := Lib.hid (fun (W : World) (hW : Below (wr.alloc (fctO f)).heap.size (wr.alloc (fctO f)) W) => hFA1.call hW)
              have HVO := Lib.hid (fun b hb => (hFA1.row.own_lt b hb).2)
              have HV0 := Lib.hid (fun b hb => (hFA.row.own_lt b hb).2)
              have HWO := Lib.hid (fun (W : World) => words_c f.text W (Nat.le_trans (HFL.out f (List.mem_of_getElem? hf)) (by omega)))
              have HLL := Lib.hid (fldK_succ (t := x.title) hf)
              have kN : (fldK x.title fs k2).length + ([(⟨f.el, wordsF f.text⟩ : Wds)]).length ≤ 4294967296 := by have := fldK_len x.title fs k2; simp only [List.length_cons, List.length_nil]; omega
              have hgo := heap_ltM hFA.blk
              have KEEPS := Lib.hid (fun (W : World) (hW : Below (wr.alloc (fctO f)).heap.size (wr.alloc (fctO f)) W) => (⟨(hW.cell (p := ⟨wr.heap.size, 0, none⟩) (by simp)).trans (by simp), (hW.cell (p := ⟨wr.heap.size, 1, none⟩) (by simp)).trans (by simp), (hW.cell (p := ⟨wr.heap.size, 2, none⟩) (by simp)).trans (by simp)⟩ : W.cell? ⟨wr.heap.size, 0, none⟩ = some (.int .i64 f.el) ∧ W.cell? ⟨wr.heap.size, 1, none⟩ = some (.string f.lang) ∧ W.cell? ⟨wr.heap.size, 2, none⟩ = some (.string f.text)))
              have KEEPG := Lib.hid (fun (W W6 : World) (hW : Below (wr.alloc (fctO f)).heap.size (wr.alloc (fctO f)) W) (hg : W.grownBy W6 v'.ownBlock) => (by
                obtain ⟨q1, q2, q3⟩ := KEEPS.out W hW
                have hgl : wr.heap.size < W.heap.size := by have := hW.size; simp at this; omega
                have m1 : some wr.heap.size ≠ v'.ownBlock := fun e => by have := HV0.out _ e.symm; omega
                have t : W6.cell? ⟨wr.heap.size, 0, none⟩ = some (.int .i64 f.el) ∧ W6.cell? ⟨wr.heap.size, 1, none⟩ = some (.string f.lang) ∧ W6.cell? ⟨wr.heap.size, 2, none⟩ = some (.string f.text) := ⟨(cell_grownM hg hgl m1).trans q1, (cell_grownM hg hgl m1).trans q2, (cell_grownM hg hgl m1).trans q3⟩
                refine ⟨t, fun u => ?_⟩
                obtain ⟨t1, t2, t3⟩ := t
                have o1 : w5.heap.size + 1 ≠ wr.heap.size := by omega
                exact ⟨(World.cell?_setCell_far _ _ _ _ o1).trans t1, (World.cell?_setCell_far _ _ _ _ o1).trans t2, (World.cell?_setCell_far _ _ _ _ o1).trans t3⟩ : (W6.cell? ⟨wr.heap.size, 0, none⟩ = some (.int .i64 f.el) ∧ W6.cell? ⟨wr.heap.size, 1, none⟩ = some (.string f.lang) ∧ W6.cell? ⟨wr.heap.size, 2, none⟩ = some (.string f.text)) ∧ ∀ u : Value, (W6.setCell ⟨w5.heap.size + 1, 0, none⟩ u).cell? ⟨wr.heap.size, 0, none⟩ = some (.int .i64 f.el) ∧ (W6.setCell ⟨w5.heap.size + 1, 0, none⟩ u).cell? ⟨wr.heap.size, 1, none⟩ = some (.string f.lang) ∧ (W6.setCell ⟨w5.heap.size + 1, 0, none⟩ u).cell? ⟨wr.heap.size, 2, none⟩ = some (.string f.text)))
              obtain ⟨Av, nv, cv, rfl, -⟩ := own_form wdsS hFA.row
              have hbX : Below (wr.alloc (fctO f)).heap.size (wr.alloc (fctO f)) (wr.alloc (fctO f)).drew := (Below.refl _ _).drew
              have r0 := (HSX.out _ hbX).cells.1
              clear hf hsf hFA hFA1 hx1 hgo
              go_wp2
              refine wp_region_held_drew (S := fun W => W.cell? ⟨wr.heap.size, 0, none⟩ = some (.int .i64 f.el) ∧ W.cell? ⟨wr.heap.size, 1, none⟩ = some (.string f.lang) ∧ W.cell? ⟨wr.heap.size, 2, none⟩ = some (.string f.text)) (by kernel_rfl) (by with_reducible exact KEEPS.out _ hbX) (fun hHeld0 => ?_)
              refine wpAnyH_take (i := 1) (oi := { dst := some 55, op := Go.Op.fieldAddr 93 (Go.Operand.tmp 14) 0, type := 0, pos := "query.go:388", after := #[], guard := none }) (v := ?_) rfl (by kernel_rfl) (by kernel_rfl) (by kernel_rfl) (fun _ _ _ h => h) (Or.inl ⟨by rfl, ?_⟩) hHeld0 ?_
              rotate_left
              · intro w hSw
                (try dsimp only at hSw)
                go_simp
                (try with_reducible rfl)
              (try simp only [Act.put, List.setIfInBounds_toArray, List.set_cons_zero, List.set_cons_succ])
              refine wpAnyH_take (i := 2) (oi := { dst := some 56, op := Go.Op.load 3 (Go.Operand.tmp 55), type := 3, pos := "query.go:388", after := #[{ on := 1, ground := Go.Ground.data }], guard := none }) (v := ?_) rfl (by kernel_rfl) (by kernel_rfl) (by kernel_rfl) (fun _ _ _ h => h) (Or.inl ⟨by rfl, ?_⟩) hHeld0 ?_
              rotate_left
              · intro w hSw
                (try dsimp only at hSw)
                go_simp
                (try with_reducible rfl)
              (try simp only [Act.put, List.setIfInBounds_toArray, List.set_cons_zero, List.set_cons_succ])
              refine wpAnyH_take (i := 3) (oi := { dst := some 57, op := Go.Op.fieldAddr 93 (Go.Operand.tmp 14) 2, type := 0, pos := "query.go:388", after := #[], guard := none }) (v := ?_) rfl (by kernel_rfl) (by kernel_rfl) (by kernel_rfl) (fun _ _ _ h => h) (Or.inl ⟨by rfl, ?_⟩) hHeld0 ?_
              rotate_left
              · intro w hSw
                (try dsimp only at hSw)
                go_simp
                (try with_reducible rfl)
              (try simp only [Act.put, List.setIfInBounds_toArray, List.set_cons_zero, List.set_cons_succ])
              refine wpAnyH_take (i := 4) (oi := { dst := some 58, op := Go.Op.load 9 (Go.Operand.tmp 57), type := 9, pos := "query.go:388", after := #[{ on := 3, ground := Go.Ground.data }], guard := none }) (v := ?_) rfl (by kernel_rfl) (by kernel_rfl) (by kernel_rfl) (fun _ _ _ h => h) (Or.inl ⟨by rfl, ?_⟩) hHeld0 ?_
              rotate_left
              · intro w hSw
                (try dsimp only at hSw)
                go_simp
                (try with_reducible rfl)
              (try simp only [Act.put, List.setIfInBounds_toArray, List.set_cons_zero, List.set_cons_succ])
              refine wpAnyH_ready (rs := [0, 5]) (by kernel_rfl) (by simp) ?_
              refine AllReadyH.cons (o := { dst := some 54, op := Go.Op.load 110 (Go.Operand.tmp 12), type := 110, pos := "query.go:388", after := #[], guard := none }) rfl (fun K hK => ?_) (AllReadyH.cons (o := { dst := some 59, op := Go.Op.call { callee := Go.Callee.value (Go.Operand.func 70), args := #[Go.Operand.tmp 58], argTypes := #[9] }, type := 32, pos := "query.go:388", after := #[{ on := 4, ground := Go.Ground.data }], guard := none }) rfl (fun K hK => ?_) AllReadyH.nil)
              ·
                go_simp
                refine hK.out _ _ (by first | with_reducible exact KEEPS.out _ hbX | with_reducible exact KEEPS.out _ hbA | with_reducible exact (KEEPG.out _ _ hbA hg6).1 | with_reducible exact (KEEPG.out _ _ hbA hg6).2 _) (fun hHeld1 => ?_)
                clear hK K hHeld0
                (try simp only [Act.put, List.setIfInBounds_toArray, List.set_cons_zero, List.set_cons_succ])
                refine wpAnyH_ready (rs := [5]) (by kernel_rfl) (by simp) ?_
                refine AllReadyH.cons (o := { dst := some 59, op := Go.Op.call { callee := Go.Callee.value (Go.Operand.func 70), args := #[Go.Operand.tmp 58], argTypes := #[9] }, type := 32, pos := "query.go:388", after := #[{ on := 4, ground := Go.Ground.data }], guard := none }) rfl (fun K hK => ?_) AllReadyH.nil
                go_simp
                (have hsX := hbX.size; go_at_call 70; (with_reducible refine (HWO.out _).mono ?_); rintro e w3 ⟨v3, rfl, hw3, hb3⟩; have hbX := hbX.trans (hb3.mono hbX.size); have r0 := (HSX.out _ hbX).cells.1; have hs3 := hw3.toFlat strS; have hl3 := hw3.own_lt; have hz3 := hb3.size; obtain ⟨A3, n3, c3, rfl, hn3⟩ := own_form strS hw3; have hbA := hbX.alloc hbX.size (wdsC ⟨f.el, wordsF f.text⟩ (.slice A3 n3 c3)); have hA := HSX.out _ hbA; have kS := wds_one f.el hs3 (fun b hb => (hl3 b hb).2); have kF := fun b hb => wds_off (o := wdsC ⟨f.el, wordsF f.text⟩ (.slice A3 n3 c3)) HVO.out hl3 hsX hz3 b hb; have r1 := hA.cells.1)
                go_wp2_with fail
                refine hK.out _ _ (by first | with_reducible exact KEEPS.out _ hbX | with_reducible exact KEEPS.out _ hbA | with_reducible exact (KEEPG.out _ _ hbA hg6).1 | with_reducible exact (KEEPG.out _ _ hbA hg6).2 _) (fun hHeld2 => ?_)
                clear hK K hHeld1
                (try simp only [Act.put, List.setIfInBounds_toArray, List.set_cons_zero, List.set_cons_succ])
                refine wpAnyH_take (i := 6) (oi := { dst := some 60, op := Go.Op.build 109 #[(0, Go.Operand.tmp 56), (1, Go.Operand.tmp 59)], type := 109, pos := "query.go:388", after := #[{ on := 2, ground := Go.Ground.data }, { on := 5, ground := Go.Ground.data }], guard := none }) (v := ?_) rfl (by kernel_rfl) (by kernel_rfl) (by kernel_rfl) (fun _ _ _ h => h) (Or.inl ⟨by rfl, ?_⟩) hHeld2 ?_
                rotate_left
                · intro w hSw
                  (try dsimp only at hSw)
                  go_simp
                  (try with_reducible rfl)
                (try simp only [Act.put, List.setIfInBounds_toArray, List.set_cons_zero, List.set_cons_succ])
                refine wpAnyH_ready (rs := [7]) (by kernel_rfl) (by simp) ?_
                refine AllReadyH.cons (o := { dst := some 61, op := Go.Op.buildSlice 110 1 #[(0, Go.Operand.tmp 60)], type := 110, pos := "query.go:388", after := #[{ on := 6, ground := Go.Ground.data }], guard := none }) rfl (fun K hK => ?_) AllReadyH.nil
                go_simp
                refine hK.out _ _ (by first | with_reducible exact KEEPS.out _ hbX | with_reducible exact KEEPS.out _ hbA | with_reducible exact (KEEPG.out _ _ hbA hg6).1 | with_reducible exact (KEEPG.out _ _ hbA hg6).2 _) (fun hHeld3 => ?_)
                clear hK K hHeld2
                (try simp only [Act.put, List.setIfInBounds_toArray, List.set_cons_zero, List.set_cons_succ])
                refine wpAnyH_ready (rs := [8]) (by kernel_rfl) (by simp) ?_
                refine AllReadyH.cons (o := { dst := some 62, op := Go.Op.call { callee := Go.Callee.builtin Go.Builtin.append, args := #[Go.Operand.tmp 54, Go.Operand.tmp 61], argTypes := #[110, 110] }, type := 110, pos := "query.go:388", after := #[{ on := 0, ground := Go.Ground.data }, { on := 7, ground := Go.Ground.data }, { on := 5, ground := Go.Ground.chain }], guard := none }) rfl (fun K hK => ?_) AllReadyH.nil
                (refine step_append_rep rfl wdsS wdsE_ _ (.tmp 54) (.tmp 61) rfl rfl hA.row rfl (ys := [(⟨f.el, wordsF f.text⟩ : Wds)]) kS kF kN (by decide) hA.base_ ?_; intro v6 w6 hown6 hg6 hat6; have hA6 := hA.app hown6 hg6 hat6; have r2 := hA.old hg6; have r3 := hA.frz hg6; rw [HLL.out] at hown6 hA6; obtain ⟨A6, n6, c6, rfl, hn6⟩ := own_form wdsS hown6)
                refine hK.out _ _ (by first | with_reducible exact KEEPS.out _ hbX | with_reducible exact KEEPS.out _ hbA | with_reducible exact (KEEPG.out _ _ hbA hg6).1 | with_reducible exact (KEEPG.out _ _ hbA hg6).2 _) (fun hHeld4 => ?_)
                clear hK K hHeld3
                (try simp only [Act.put, List.setIfInBounds_toArray, List.set_cons_zero, List.set_cons_succ])
                refine wpAnyH_ready (rs := [9]) (by kernel_rfl) (by simp) ?_
                refine AllReadyH.cons (o := { dst := none, op := Go.Op.store 110 (Go.Operand.tmp 12) (Go.Operand.tmp 62), type := 0, pos := "query.go:388", after := #[{ on := 8, ground := Go.Ground.data }, { on := 8, ground := Go.Ground.chain }, { on := 0, ground := Go.Ground.phase }, { on := 1, ground := Go.Ground.phase }, { on := 2, ground := Go.Ground.phase }, { on := 3, ground := Go.Ground.phase }, { on := 4, ground := Go.Ground.phase }, { on := 5, ground := Go.Ground.phase }, { on := 6, ground := Go.Ground.phase }, { on := 7, ground := Go.Ground.phase }, { on := 8, ground := Go.Ground.phase }], guard := none }) rfl (fun K hK => ?_) AllReadyH.nil
                go_simp
                refine hK.out _ _ (by first | with_reducible exact KEEPS.out _ hbX | with_reducible exact KEEPS.out _ hbA | with_reducible exact (KEEPG.out _ _ hbA hg6).1 | with_reducible exact (KEEPG.out _ _ hbA hg6).2 _) (fun hHeld5 => ?_)
                clear hK K hHeld4
                (try simp only [Act.put, List.setIfInBounds_toArray, List.set_cons_zero, List.set_cons_succ])
                refine wpAnyH_done (by kernel_rfl) ?_ _
                go_wp2
                go_roundw
                case rel => exact ⟨k2 + 1, _, by omega, by go_num, hA6⟩
                case measure => simp [intOf]; omega
              ·
                go_simp
                (have hsX := hbX.size; go_at_call 70; (with_reducible refine (HWO.out _).mono ?_); rintro e w3 ⟨v3, rfl, hw3, hb3⟩; have hbX := hbX.trans (hb3.mono hbX.size); have r0 := (HSX.out _ hbX).cells.1; have hs3 := hw3.toFlat strS; have hl3 := hw3.own_lt; have hz3 := hb3.size; obtain ⟨A3, n3, c3, rfl, hn3⟩ := own_form strS hw3; have hbA := hbX.alloc hbX.size (wdsC ⟨f.el, wordsF f.text⟩ (.slice A3 n3 c3)); have hA := HSX.out _ hbA; have kS := wds_one f.el hs3 (fun b hb => (hl3 b hb).2); have kF := fun b hb => wds_off (o := wdsC ⟨f.el, wordsF f.text⟩ (.slice A3 n3 c3)) HVO.out hl3 hsX hz3 b hb; have r1 := hA.cells.1)
                go_wp2_with fail
                refine hK.out _ _ (by first | with_reducible exact KEEPS.out _ hbX | with_reducible exact KEEPS.out _ hbA | with_reducible exact (KEEPG.out _ _ hbA hg6).1 | with_reducible exact (KEEPG.out _ _ hbA hg6).2 _) (fun hHeld1 => ?_)
                clear hK K hHeld0
                (try simp only [Act.put, List.setIfInBounds_toArray, List.set_cons_zero, List.set_cons_succ])
                refine wpAnyH_take (i := 6) (oi := { dst := some 60, op := Go.Op.build 109 #[(0, Go.Operand.tmp 56), (1, Go.Operand.tmp 59)], type := 109, pos := "query.go:388", after := #[{ on := 2, ground := Go.Ground.data }, { on := 5, ground := Go.Ground.data }], guard := none }) (v := ?_) rfl (by kernel_rfl) (by kernel_rfl) (by kernel_rfl) (fun _ _ _ h => h) (Or.inl ⟨by rfl, ?_⟩) hHeld1 ?_
                rotate_left
                · intro w hSw
                  (try dsimp only at hSw)
                  go_simp
                  (try with_reducible rfl)
                (try simp only [Act.put, List.setIfInBounds_toArray, List.set_cons_zero, List.set_cons_succ])
                refine wpAnyH_ready (rs := [0, 7]) (by kernel_rfl) (by simp) ?_
                refine AllReadyH.cons (o := { dst := some 54, op := Go.Op.load 110 (Go.Operand.tmp 12), type := 110, pos := "query.go:388", after := #[], guard := none }) rfl (fun K hK => ?_) (AllReadyH.cons (o := { dst := some 61, op := Go.Op.buildSlice 110 1 #[(0, Go.Operand.tmp 60)], type := 110, pos := "query.go:388", after := #[{ on := 6, ground := Go.Ground.data }], guard := none }) rfl (fun K hK => ?_) AllReadyH.nil)
                ·
                  go_simp
                  refine hK.out _ _ (by first | with_reducible exact KEEPS.out _ hbX | with_reducible exact KEEPS.out _ hbA | with_reducible exact (KEEPG.out _ _ hbA hg6).1 | with_reducible exact (KEEPG.out _ _ hbA hg6).2 _) (fun hHeld2 => ?_)
                  clear hK K hHeld1
                  (try simp only [Act.put, List.setIfInBounds_toArray, List.set_cons_zero, List.set_cons_succ])
                  refine wpAnyH_ready (rs := [7]) (by kernel_rfl) (by simp) ?_
                  refine AllReadyH.cons (o := { dst := some 61, op := Go.Op.buildSlice 110 1 #[(0, Go.Operand.tmp 60)], type := 110, pos := "query.go:388", after := #[{ on := 6, ground := Go.Ground.data }], guard := none }) rfl (fun K hK => ?_) AllReadyH.nil
                  go_simp
                  refine hK.out _ _ (by first | with_reducible exact KEEPS.out _ hbX | with_reducible exact KEEPS.out _ hbA | with_reducible exact (KEEPG.out _ _ hbA hg6).1 | with_reducible exact (KEEPG.out _ _ hbA hg6).2 _) (fun hHeld3 => ?_)
                  clear hK K hHeld2
                  (try simp only [Act.put, List.setIfInBounds_toArray, List.set_cons_zero, List.set_cons_succ])
                  refine wpAnyH_ready (rs := [8]) (by kernel_rfl) (by simp) ?_
                  refine AllReadyH.cons (o := { dst := some 62, op := Go.Op.call { callee := Go.Callee.builtin Go.Builtin.append, args := #[Go.Operand.tmp 54, Go.Operand.tmp 61], argTypes := #[110, 110] }, type := 110, pos := "query.go:388", after := #[{ on := 0, ground := Go.Ground.data }, { on := 7, ground := Go.Ground.data }, { on := 5, ground := Go.Ground.chain }], guard := none }) rfl (fun K hK => ?_) AllReadyH.nil
                  (refine step_append_rep rfl wdsS wdsE_ _ (.tmp 54) (.tmp 61) rfl rfl hA.row rfl (ys := [(⟨f.el, wordsF f.text⟩ : Wds)]) kS kF kN (by decide) hA.base_ ?_; intro v6 w6 hown6 hg6 hat6; have hA6 := hA.app hown6 hg6 hat6; have r2 := hA.old hg6; have r3 := hA.frz hg6; rw [HLL.out] at hown6 hA6; obtain ⟨A6, n6, c6, rfl, hn6⟩ := own_form wdsS hown6)
                  refine hK.out _ _ (by first | with_reducible exact KEEPS.out _ hbX | with_reducible exact KEEPS.out _ hbA | with_reducible exact (KEEPG.out _ _ hbA hg6).1 | with_reducible exact (KEEPG.out _ _ hbA hg6).2 _) (fun hHeld4 => ?_)
                  clear hK K hHeld3
                  (try simp only [Act.put, List.setIfInBounds_toArray, List.set_cons_zero, List.set_cons_succ])
                  refine wpAnyH_ready (rs := [9]) (by kernel_rfl) (by simp) ?_
                  refine AllReadyH.cons (o := { dst := none, op := Go.Op.store 110 (Go.Operand.tmp 12) (Go.Operand.tmp 62), type := 0, pos := "query.go:388", after := #[{ on := 8, ground := Go.Ground.data }, { on := 8, ground := Go.Ground.chain }, { on := 0, ground := Go.Ground.phase }, { on := 1, ground := Go.Ground.phase }, { on := 2, ground := Go.Ground.phase }, { on := 3, ground := Go.Ground.phase }, { on := 4, ground := Go.Ground.phase }, { on := 5, ground := Go.Ground.phase }, { on := 6, ground := Go.Ground.phase }, { on := 7, ground := Go.Ground.phase }, { on := 8, ground := Go.Ground.phase }], guard := none }) rfl (fun K hK => ?_) AllReadyH.nil
                  go_simp
                  refine hK.out _ _ (by first | with_reducible exact KEEPS.out _ hbX | with_reducible exact KEEPS.out _ hbA | with_reducible exact (KEEPG.out _ _ hbA hg6).1 | with_reducible exact (KEEPG.out _ _ hbA hg6).2 _) (fun hHeld5 => ?_)
                  clear hK K hHeld4
                  (try simp only [Act.put, List.setIfInBounds_toArray, List.set_cons_zero, List.set_cons_succ])
                  refine wpAnyH_done (by kernel_rfl) ?_ _
                  go_wp2
                  go_roundw
                  case rel => exact ⟨k2 + 1, _, by omega, by go_num, hA6⟩
                  case measure => simp [intOf]; omega
                ·
                  go_simp
                  refine hK.out _ _ (by first | with_reducible exact KEEPS.out _ hbX | with_reducible exact KEEPS.out _ hbA | with_reducible exact (KEEPG.out _ _ hbA hg6).1 | with_reducible exact (KEEPG.out _ _ hbA hg6).2 _) (fun hHeld2 => ?_)
                  clear hK K hHeld1
                  (try simp only [Act.put, List.setIfInBounds_toArray, List.set_cons_zero, List.set_cons_succ])
                  refine wpAnyH_ready (rs := [0]) (by kernel_rfl) (by simp) ?_
                  refine AllReadyH.cons (o := { dst := some 54, op := Go.Op.load 110 (Go.Operand.tmp 12), type := 110, pos := "query.go:388", after := #[], guard := none }) rfl (fun K hK => ?_) AllReadyH.nil
                  go_simp
                  refine hK.out _ _ (by first | with_reducible exact KEEPS.out _ hbX | with_reducible exact KEEPS.out _ hbA | with_reducible exact (KEEPG.out _ _ hbA hg6).1 | with_reducible exact (KEEPG.out _ _ hbA hg6).2 _) (fun hHeld3 => ?_)
                  clear hK K hHeld2
                  (try simp only [Act.put, List.setIfInBounds_toArray, List.set_cons_zero, List.set_cons_succ])
                  refine wpAnyH_ready (rs := [8]) (by kernel_rfl) (by simp) ?_
                  refine AllReadyH.cons (o := { dst := some 62, op := Go.Op.call { callee := Go.Callee.builtin Go.Builtin.append, args := #[Go.Operand.tmp 54, Go.Operand.tmp 61], argTypes := #[110, 110] }, type := 110, pos := "query.go:388", after := #[{ on := 0, ground := Go.Ground.data }, { on := 7, ground := Go.Ground.data }, { on := 5, ground := Go.Ground.chain }], guard := none }) rfl (fun K hK => ?_) AllReadyH.nil
                  (refine step_append_rep rfl wdsS wdsE_ _ (.tmp 54) (.tmp 61) rfl rfl hA.row rfl (ys := [(⟨f.el, wordsF f.text⟩ : Wds)]) kS kF kN (by decide) hA.base_ ?_; intro v6 w6 hown6 hg6 hat6; have hA6 := hA.app hown6 hg6 hat6; have r2 := hA.old hg6; have r3 := hA.frz hg6; rw [HLL.out] at hown6 hA6; obtain ⟨A6, n6, c6, rfl, hn6⟩ := own_form wdsS hown6)
                  refine hK.out _ _ (by first | with_reducible exact KEEPS.out _ hbX | with_reducible exact KEEPS.out _ hbA | with_reducible exact (KEEPG.out _ _ hbA hg6).1 | with_reducible exact (KEEPG.out _ _ hbA hg6).2 _) (fun hHeld4 => ?_)
                  clear hK K hHeld3
                  (try simp only [Act.put, List.setIfInBounds_toArray, List.set_cons_zero, List.set_cons_succ])
                  refine wpAnyH_ready (rs := [9]) (by kernel_rfl) (by simp) ?_
                  refine AllReadyH.cons (o := { dst := none, op := Go.Op.store 110 (Go.Operand.tmp 12) (Go.Operand.tmp 62), type := 0, pos := "query.go:388", after := #[{ on := 8, ground := Go.Ground.data }, { on := 8, ground := Go.Ground.chain }, { on := 0, ground := Go.Ground.phase }, { on := 1, ground := Go.Ground.phase }, { on := 2, ground := Go.Ground.phase }, { on := 3, ground := Go.Ground.phase }, { on := 4, ground := Go.Ground.phase }, { on := 5, ground := Go.Ground.phase }, { on := 6, ground := Go.Ground.phase }, { on := 7, ground := Go.Ground.phase }, { on := 8, ground := Go.Ground.phase }], guard := none }) rfl (fun K hK => ?_) AllReadyH.nil
                  go_simp
                  refine hK.out _ _ (by first | with_reducible exact KEEPS.out _ hbX | with_reducible exact KEEPS.out _ hbA | with_reducible exact (KEEPG.out _ _ hbA hg6).1 | with_reducible exact (KEEPG.out _ _ hbA hg6).2 _) (fun hHeld5 => ?_)
                  clear hK K hHeld4
                  (try simp only [Act.put, List.setIfInBounds_toArray, List.set_cons_zero, List.set_cons_succ])
                  refine wpAnyH_done (by kernel_rfl) ?_ _
                  go_wp2
                  go_roundw
                  case rel => exact ⟨k2 + 1, _, by omega, by go_num, hA6⟩
                  case measure => simp [intOf]; omega
            · have hki : ¬ (k2 : Int) < (fs.length : Int) := by omega
              have hke : k2 = fs.length := by omega
              subst hke
              rw [← HFS.out] at hFA
              have hbR := HBX.out _ hFA.below
              have bG : Below wr.heap.size wr (wr.alloc (.cells #[.func (.func 72) #[] (mtPs (w.heap.size + 1 + 1) wr.heap.size w4.heap.size w.heap.size (w.heap.size + 1) (w5.heap.size + 1))] 112)) := (Below.refl _ _).alloc (Nat.le_refl _) _
              have hbG := bnd_call hbR hsO bG
              have hFG := hFA.call bG
              have hS4 : (w4.alloc (shtC x (.slice Af x.facts.length cf))).heap[w4.heap.size]? = some (shtC x (.slice Af x.facts.length cf)) := heap_newN _ _
              have hG4 := (hFG.below.block w4.heap.size (by simp)).trans hS4
              obtain ⟨z0, z1, z2, z3, z4, zl⟩ := KC.out _ hbG
              have hup := HUP.out _ hbG
              have hwB := hup.size
              have HUPG := Lib.hid hup
              have hq32 := (askE_zero h1').1
              have hM : MatAt (wr.alloc (.cells #[.func (.func 72) #[] (mtPs (w.heap.size + 1 + 1) wr.heap.size w4.heap.size w.heap.size (w.heap.size + 1) (w5.heap.size + 1))] 112)).heap.size c x q (fldF c s x) (.slice Aq q.length dq) v' (.slice A1 c.langs.length d1) (.slice A2 c.labels.length d2) (.slice (some ⟨b, off, none⟩) c.sheets.length d3) (w.heap.size + 1 + 1) wr.heap.size w4.heap.size w.heap.size (w.heap.size + 1) (w5.heap.size + 1) (wr.alloc (.cells #[.func (.func 72) #[] (mtPs (w.heap.size + 1 + 1) wr.heap.size w4.heap.size w.heap.size (w.heap.size + 1) (w5.heap.size + 1))] 112)) :=
                ⟨z4, by rw [Lib.cell_of_heap (heap_newN wr _)]; rfl, by rw [Lib.cell_of_heap hG4]; rfl, z0, z1, z2, z3, hFG.cells.1, ⟨zl, by simp, heap_ltM hG4, by omega, by omega, hFG.cells.2.2⟩, Nat.le_refl _, (hq.below askS (hup.mono hB)).mono askS (by omega), hFG.row.toSl wdsS, (h.below (hup.mono hB)).mono (by omega), hV.below hup⟩
              have HMT := Lib.hid (show Calls Tryz.prog 72 #[.int .i64 0, .pointer (some ⟨w.heap.size + 1 + 1, 0, none⟩), .pointer (some ⟨wr.heap.size, 0, none⟩), .pointer (some ⟨w4.heap.size, 0, none⟩), .pointer (some ⟨w.heap.size, 0, none⟩), .pointer (some ⟨w.heap.size + 1, 0, none⟩), .pointer (some ⟨w5.heap.size + 1, 0, none⟩)] _ fun e w' => e = .returned (.bool (mchB c s (undB c) Q x)) ∧ Below _ _ w' from
                match_c c s x q (fldF c s x) _ _ _ _ _ _ _ _ _ _ _ _ (by omega) hs (fun f hf => (by
                  rw [HFS.out] at hf
                  unfold fldK at hf
                  rcases List.mem_cons.1 hf with rfl | hf
                  · exact Nat.le_trans (wordsF_len _) (by omega)
                  · obtain ⟨g, hg, rfl⟩ := List.mem_map.1 hf
                    exact Nat.le_trans (wordsF_len _) (Nat.le_trans (HFL.out g (List.take_subset _ _ hg)) (by omega)))) rfl h14 Q (hQ h1').1 0 [] (by rw [List.drop_zero, (hQ h1').2, List.append_nil]) _ hM)
              clear hM hFA hFG hG4 hS4 z0 z1 z2 z3 z4 hup h hq hQ hs h14 hV h0 h1' hbR bG HFC HFO HBX HFL HX KC
              go_wp2_with fail
              refine HMT.out.mono ?_
              rintro e w9 ⟨rfl, hb9⟩
              go_wp2
              go_ret2
              exact ⟨by rw [HE.out, HE2.out]; rfl, HUPG.out.trans (hb9.mono HUPG.out.size)⟩
    · have HE := Lib.hid (show mtE c s u q = 1 by unfold mtE; rw [if_pos (.inr h1)])
      have HE2 := Lib.hid (mt_no (Q := Q) HE.out (by decide))
      have h1' : (askE q != 0) = true := by simp [h1]
      obtain ⟨A1, d1, rfl, -⟩ := id h.langs
      obtain ⟨A2, d2, rfl, -⟩ := id h.labels
      obtain ⟨A3, d3, rfl, -⟩ := id h.sheets
      obtain ⟨Aq, dq, rfl, -⟩ := id hq
      generalize askE q = z at *
      clear h0 h1 h hq hQ hs h14 hV HIX HS
      go_enter Tryz.func26, Tryz.ntmps26
      go_wp2_with fail
      refine (HC.out _ b1).mono ?_
      rintro e w1 ⟨rfl, hb1⟩
      have hbX := bnd_call hb0 hsO hb1
      obtain ⟨z0, z1, z2, z3, z4, zl⟩ := KC.out _ hbX
      go_wp2_with fail
      refine (HA.out _ (HUP.out _ hbX)).mono ?_
      rintro e w2 ⟨rfl, hb2⟩
      have hbX := bnd_call hbX hsO hb2
      go_wp2
      go_ret2
      exact ⟨by rw [HE.out, HE2.out]; rfl, HUP.out _ hbX⟩
  · have HE := Lib.hid (show mtE c s u q = 1 by unfold mtE; rw [if_pos (.inl h0)])
    have HE2 := Lib.hid (mt_no (Q := Q) HE.out (by decide))
    have h0' : (catE c != 0) = true := by simp [h0]
    obtain ⟨A1, d1, rfl, -⟩ := id h.langs
    obtain ⟨A2, d2, rfl, -⟩ := id h.labels
    obtain ⟨A3, d3, rfl, -⟩ := id h.sheets
    obtain ⟨Aq, dq, rfl, -⟩ := id hq
    generalize catE c = z at *
    clear h0 h hq hQ hs h14 hV HIX HS HA
    go_enter Tryz.func26, Tryz.ntmps26
    go_wp2_with fail
    refine (HC.out _ b1).mono ?_
    rintro e w1 ⟨rfl, hb1⟩
    have hbX := bnd_call hb0 hsO hb1
    go_wp2
    go_ret2
    exact ⟨by rw [HE.out, HE2.out]; rfl, HUP.out _ hbX⟩
end Go.Proofs.YtngodakkdhdmjaaGreatDoor
