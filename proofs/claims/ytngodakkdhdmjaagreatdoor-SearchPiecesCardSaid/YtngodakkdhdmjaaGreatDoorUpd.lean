/- The program: Update. -/
import Derived.Test.YtngodakkdhdmjaaGreatDoorOfq
import Derived.Test.YtngodakkdhdmjaaGreatDoorBld
import Derived.Test.YtngodakkdhdmjaaGreatDoorSos
import Derived.Test.YtngodakkdhdmjaaGreatDoorPus
import Derived.Test.YtngodakkdhdmjaaGreatDoorRgs
import Derived.Test.YtngodakkdhdmjaaGreatDoorBas
import Derived.Deep.RegionLaw
import Derived.Outline
import Derived.OwnWalk
namespace Go.Proofs.YtngodakkdhdmjaaGreatDoor
open Go.RowKit

/-- a sheet's cells alone, without what its facts read as -/
def sht0 : CRep Sheet := fun _ _ x cs => ∃ A n c, cs = [.int .i64 x.unit, .int .i64 x.parent, .int .i64 x.level, .string x.mark, .string x.title, .slice A n c]
theorem sht0S : Shape 6 sht0 := ⟨fun _ h => h, fun _ h => h, fun ⟨A, n, c, h⟩ => by rw [h]; rfl, fun ⟨A, n, c, h⟩ u hu => by
  subst h
  simp at hu
  rcases hu with rfl | rfl | rfl | rfl | rfl | rfl <;> rfl⟩
theorem own_sht0 {e : TypeId} {base : Nat} {w : World} {xs : List Sheet} {v : Value} (h : OwnRep 6 shtR e base w xs v) : SlRep 6 sht0 w (fun b => v.ownBlock = some b) xs v := by
  obtain ⟨A, c, e1, h1, h2, h3⟩ := h.toSl shtS
  refine ⟨A, c, e1, h1, h2, fun i x hx => ?_⟩
  obtain ⟨b, off, cs, hA, -, ⟨vf, hcs, g0⟩, hc⟩ := h3 i x hx
  obtain ⟨A', c', e9, -⟩ := g0
  exact ⟨b, off, cs, hA, by rw [e1, hA]; rfl, ⟨A', _, c', by rw [hcs, e9]⟩, hc⟩
theorem Sheet0.at_ {w : World} {F : Nat → Prop} {A : Option Addr} {n c i : Nat} {xs : List Sheet} {x : Sheet} (h : SlRep 6 sht0 w F xs (.slice A n c)) (hx : xs[i]? = some x) : ∃ b off A' n' c', A = some ⟨b, off, none⟩ ∧ F b ∧ w.cell? ⟨b, off + i * 6, none⟩ = some (.int .i64 x.unit) ∧ w.cell? ⟨b, off + i * 6 + 1, none⟩ = some (.int .i64 x.parent) ∧ w.cell? ⟨b, off + i * 6 + 2, none⟩ = some (.int .i64 x.level) ∧ w.cell? ⟨b, off + i * 6 + 3, none⟩ = some (.string x.mark) ∧ w.cell? ⟨b, off + i * 6 + 4, none⟩ = some (.string x.title) ∧ w.cell? ⟨b, off + i * 6 + 5, none⟩ = some (.slice A' n' c') := by
  obtain ⟨A', c', e, h1, h2, h3⟩ := h
  obtain ⟨b, off, cs, hA, hlt, ⟨A2, n2, c2, hcs⟩, hc⟩ := h3 i x hx
  injection e with e1 e2 e3
  subst e1 hcs
  exact ⟨b, off, A2, n2, c2, hA, hlt, hc 0 _ rfl, hc 1 _ rfl, hc 2 _ rfl, hc 3 _ rfl, hc 4 _ rfl, hc 5 _ rfl⟩
def unitsL (a b : Cat) : List Int := (a.sheets ++ b.sheets).map Sheet.unit
def updO (l : List Post) (a b : Cat) (s : ByteArray) : List Post := updF (fun u => ofF a s u) (fun u => ofF b s u) (unitsL a b) l
def updE (l : List Post) (a b : Cat) (s : ByteArray) : Int := if chkL l ≠ 0 ∨ catE a ≠ 0 ∨ catE b ≠ 0 then 1 else if hasS a.langs s = false ∨ hasS b.langs s = false then 10 else if 65536 < (updO l a b s).length then 8 else 0
def updL (l : List Post) (a b : Cat) (s : ByteArray) : List Post := if updE l a b s = 0 then updO l a b s else []
def updU (l : List Post) (a b : Cat) (s : ByteArray) : List Int := if updE l a b s = 0 then chgF (fun u => ofF a s u) (fun u => ofF b s u) (unitsL a b) else []
theorem heap_newU (w : World) (o : Obj) : (w.alloc o).heap[w.heap.size]? = some o := by
  show (w.heap.push _)[w.heap.size]? = _
  simp
theorem zeroBoolU (w : World) : (zeroValue 4).run Tryz.prog w = .ok (.bool false) w := by kernel_rfl
theorem intKindU : KeyKind Tryz.prog 3 (fun n : Int => Value.int .i64 n) := int_kind Tryz.underlying3
theorem upd_err {l : List Post} {a b : Cat} {s : ByteArray} {k : Int} (h : updE l a b s = k) (hk : k ≠ 0) : updL l a b s = [] ∧ updU l a b s = [] := by
  unfold updL updU
  rw [if_neg (by rw [h]; exact hk), if_neg (by rw [h]; exact hk)]
  exact ⟨rfl, rfl⟩
theorem catW2_at {w W : World} {a1 a2 a3 b1 b2 b3 : Value} (hW : Below (w.heap.size + 2) ((w.alloc (catC a1 a2 a3)).alloc (catC b1 b2 b3)) W) :
    W.cell? ⟨w.heap.size, 0, none⟩ = some a1 ∧ W.cell? ⟨w.heap.size, 1, none⟩ = some a2 ∧ W.cell? ⟨w.heap.size, 2, none⟩ = some a3 ∧ W.cell? ⟨w.heap.size + 1, 0, none⟩ = some b1 ∧ W.cell? ⟨w.heap.size + 1, 1, none⟩ = some b2 ∧ W.cell? ⟨w.heap.size + 1, 2, none⟩ = some b3 ∧ w.heap.size + 1 < W.heap.size := by
  have h0 : ((w.alloc (catC a1 a2 a3)).alloc (catC b1 b2 b3)).heap[w.heap.size]? = some (catC a1 a2 a3) := by
    rw [Below.heap_alloc _ _ _ (by simp)]
    exact heap_newU w _
  have h1 : ((w.alloc (catC a1 a2 a3)).alloc (catC b1 b2 b3)).heap[w.heap.size + 1]? = some (catC b1 b2 b3) := by
    have := heap_newU (w.alloc (catC a1 a2 a3)) (catC b1 b2 b3)
    simpa only [World.size_alloc] using this
  have k0 := (hW.block _ (by omega)).trans h0
  have k1 := (hW.block _ (by omega)).trans h1
  refine ⟨by rw [Lib.cell_of_heap k0]; rfl, by rw [Lib.cell_of_heap k0]; rfl, by rw [Lib.cell_of_heap k0]; rfl, by rw [Lib.cell_of_heap k1]; rfl, by rw [Lib.cell_of_heap k1]; rfl, by rw [Lib.cell_of_heap k1]; rfl, ?_⟩
  have := hW.size
  simp at this
  omega
/-- the world while units are compared: the catalogs' cells, the map of what has changed, the row of postings -/
structure UpAt (w : World) (a1 a2 a3 b1 b2 b3 : Value) (mb pb : Nat) (f : Int → Option Bool) (W : World) : Prop where
  ca : W.heap[w.heap.size]? = some (catC a1 a2 a3)
  cb : W.heap[w.heap.size + 1]? = some (catC b1 b2 b3)
  pc : W.heap[pb]? = some (.cells #[.map (some mb)] 54 (0, 0))
  map : MapF W mb (fun n : Int => Value.int .i64 n) Value.bool f
  ml : w.heap.size + 2 ≤ mb
  pl : mb < pb
  below : Below w.heap.size w W
section
variable {w W W' : World} {a1 a2 a3 b1 b2 b3 : Value} {mb pb : Nat} {f f' : Int → Option Bool}
theorem UpAt.frame (h : UpAt w a1 a2 a3 b1 b2 b3 mb pb f W) (hb : Below w.heap.size w W') (h0 : ∀ k, k ≤ pb → W'.heap[k]? = W.heap[k]?) : UpAt w a1 a2 a3 b1 b2 b3 mb pb f W' :=
  ⟨(h0 _ (by have := h.ml; have := h.pl; omega)).trans h.ca, (h0 _ (by have := h.ml; have := h.pl; omega)).trans h.cb, (h0 _ (Nat.le_refl _)).trans h.pc, h.map.frame (h0 _ (Nat.le_of_lt h.pl)), h.ml, h.pl, hb⟩
theorem UpAt.call (h : UpAt w a1 a2 a3 b1 b2 b3 mb pb f W) (hb : Below W.heap.size W W') : UpAt w a1 a2 a3 b1 b2 b3 mb pb f W' :=
  h.frame (h.below.trans (hb.mono h.below.size)) (fun k hk => hb.block k (Nat.lt_of_le_of_lt hk (World.block_lt_of_cell? W ⟨pb, 0, none⟩ (by rw [Lib.cell_of_heap h.pc]; rfl))))
theorem UpAt.lt (h : UpAt w a1 a2 a3 b1 b2 b3 mb pb f W) : pb < W.heap.size := World.block_lt_of_cell? W ⟨pb, 0, none⟩ (by rw [Lib.cell_of_heap h.pc]; rfl)
theorem UpAt.row (h : UpAt w a1 a2 a3 b1 b2 b3 mb pb f W) {r : Option Nat} (hg : W.grownBy W' r) (hr : ∀ k, r = some k → pb < k) : UpAt w a1 a2 a3 b1 b2 b3 mb pb f W' :=
  h.frame (h.below.grown hg h.below.size (fun k hk => by have := hr k hk; have := h.ml; have := h.pl; omega)) (fun k hk => hg.block k (Nat.lt_of_le_of_lt hk h.lt) (fun e => by have := hr k e.symm; omega))
theorem UpAt.put (h : UpAt w a1 a2 a3 b1 b2 b3 mb pb f W) (hm : MapF W' mb (fun n : Int => Value.int .i64 n) Value.bool f') (hg : W.grownBy W' (some mb)) : UpAt w a1 a2 a3 b1 b2 b3 mb pb f' W' := by
  have hl := h.lt
  have h1 := h.ml
  have h2 := h.pl
  exact ⟨(hg.block _ (by omega) (fun e => by injection e; omega)).trans h.ca, (hg.block _ (by omega) (fun e => by injection e; omega)).trans h.cb, (hg.block _ hl (fun e => by injection e; omega)).trans h.pc, hm, h1, h2, h.below.grown hg h.below.size (fun k hk => by injection hk; omega)⟩
theorem UpAt.cells (h : UpAt w a1 a2 a3 b1 b2 b3 mb pb f W) : W.cell? ⟨w.heap.size, 0, none⟩ = some a1 ∧ W.cell? ⟨w.heap.size, 1, none⟩ = some a2 ∧ W.cell? ⟨w.heap.size, 2, none⟩ = some a3 ∧ W.cell? ⟨w.heap.size + 1, 0, none⟩ = some b1 ∧ W.cell? ⟨w.heap.size + 1, 1, none⟩ = some b2 ∧ W.cell? ⟨w.heap.size + 1, 2, none⟩ = some b3 ∧ W.cell? ⟨pb, 0, none⟩ = some (.map (some mb)) :=
  ⟨by rw [Lib.cell_of_heap h.ca]; rfl, by rw [Lib.cell_of_heap h.ca]; rfl, by rw [Lib.cell_of_heap h.ca]; rfl, by rw [Lib.cell_of_heap h.cb]; rfl, by rw [Lib.cell_of_heap h.cb]; rfl, by rw [Lib.cell_of_heap h.cb]; rfl, by rw [Lib.cell_of_heap h.pc]; rfl⟩
theorem UpAt.make {o : Obj} (hb : Below (w.heap.size + 2) ((w.alloc (catC a1 a2 a3)).alloc (catC b1 b2 b3)) W) :
    UpAt w a1 a2 a3 b1 b2 b3 W.heap.size (W.heap.size + 1) (fun _ => none) (((W.alloc (.map #[] 0)).alloc (.cells #[.map (some W.heap.size)] 54)).alloc o) := by
  have hs := hb.size
  simp at hs
  have h0 : ((w.alloc (catC a1 a2 a3)).alloc (catC b1 b2 b3)).heap[w.heap.size]? = some (catC a1 a2 a3) := by
    rw [Below.heap_alloc _ _ _ (by simp)]
    exact heap_newU w _
  have h1 : ((w.alloc (catC a1 a2 a3)).alloc (catC b1 b2 b3)).heap[w.heap.size + 1]? = some (catC b1 b2 b3) := by
    have := heap_newU (w.alloc (catC a1 a2 a3)) (catC b1 b2 b3)
    simpa only [World.size_alloc] using this
  have bw : Below w.heap.size w W := (((Below.refl _ _).alloc (Nat.le_refl _) _).alloc (by simp) _).trans (hb.mono (Nat.le_add_right _ _))
  refine ⟨?_, ?_, ?_, ?_, hs, Nat.lt_succ_self _, ((bw.alloc (by omega) _).alloc (by simp; omega) _).alloc (by simp; omega) _⟩
  · rw [Below.heap_alloc _ _ _ (by simp; omega), Below.heap_alloc _ _ _ (by simp; omega), Below.heap_alloc _ _ _ (by omega)]
    exact (hb.block _ (by omega)).trans h0
  · rw [Below.heap_alloc _ _ _ (by simp; omega), Below.heap_alloc _ _ _ (by simp; omega), Below.heap_alloc _ _ _ (by omega)]
    exact (hb.block _ (by omega)).trans h1
  · rw [Below.heap_alloc _ _ _ (by simp)]
    have := heap_newU (W.alloc (.map #[] 0)) (.cells #[.map (some W.heap.size)] 54)
    simpa only [World.size_alloc] using this
  · refine ((MapF.new W (fun n : Int => Value.int .i64 n) Value.bool rfl).frame (w' := (W.alloc (.map #[] 0)).alloc (.cells #[.map (some W.heap.size)] 54)) ?_).frame ?_
    · exact Below.heap_alloc _ _ _ (by simp)
    · exact Below.heap_alloc _ _ _ (by simp; omega)
end
theorem upd1_c (f : Int → Option Bool) (mb pb : Nat) (x : Post) (W : World) (hc : W.cell? ⟨pb, 0, none⟩ = some (.map (some mb))) (hm : MapF W mb (fun n : Int => Value.int .i64 n) Value.bool f) :
    Calls Tryz.prog 82 #[pstV x, .pointer (some ⟨pb, 0, none⟩)] W fun e w' => e = .returned (.bool ((f x.unit).getD false)) ∧ Below W.heap.size W w' := by
  have bx := (Below.refl W.heap.size W).alloc (Nat.le_refl _) (pstC x)
  have hpl := World.block_lt_of_cell? W ⟨pb, 0, none⟩ hc
  have hc1 := (bx.cell (p := ⟨pb, 0, none⟩) hpl).trans hc
  have hm1 := hm.below bx hm.lt
  go_enter Tryz.func82, Tryz.ntmps82
  cases hv : f x.unit with
  | none =>
    go_wp2_with (at_lookup; refine stop_intro ?_)
    refine stop_elim ?_
    refine wpList_look rfl (.tmp 4) (.tmp 6) 54 false rfl intKindU Tryz.underlying54 (zeroBoolU _) hm1 rfl x.unit rfl (.bool false) (by rw [hv]; rfl) ?_
    go_wp2
    go_ret
    exact ⟨rfl, bx⟩
  | some q =>
    go_wp2_with (at_lookup; refine stop_intro ?_)
    refine stop_elim ?_
    refine wpList_look rfl (.tmp 4) (.tmp 6) 54 false rfl intKindU Tryz.underlying54 (zeroBoolU _) hm1 rfl x.unit rfl (.bool q) (by rw [hv]; rfl) ?_
    go_wp2
    go_ret
    exact ⟨rfl, bx⟩
theorem enter_upd1 (args : Array Value) (W : World) : (callFunc 82 args).run Tryz.prog W = .ok (.enter 82 args) W := by kernel_rfl
set_option maxRecDepth 100000 in
set_option maxHeartbeats 4000000 in
theorem update_c (l : List Post) (a b : Cat) (s : ByteArray) (vl a1 a2 a3 b1 b2 b3 : Value) (w : World) (B : Nat) (hB : B ≤ w.heap.size) (hl : Posts w B l vl) (ha : CatRep w B a a1 a2 a3) (hb : CatRep w B b b1 b2 b3) (hw : ∀ p ∈ l, p.word.size ≤ 1000000) (hn : l.length ≤ 100000) :
    Calls Tryz.prog 36 #[vl, .agg #[a1, a2, a3], .agg #[b1, b2, b3], .string s] w fun e w' => ∃ v u, e = .returned (.tuple #[v, u, .int .i64 (updE l a b s)]) ∧ OwnRep 4 (flat Post.enc) 36 w.heap.size w' (updL l a b s) v ∧ OwnRep 1 (flat intEnc) 3 w.heap.size w' (updU l a b s) u ∧ Below w.heap.size w w' := by
  have HCL := Lib.hid (fun (W : World) (hW : Below w.heap.size w W) => icheck_c l vl W B (Nat.le_trans hB hW.size) (hl.below pstS (hW.mono hB)) hw)
  have HCA := Lib.hid (fun (W : World) (hW : Below w.heap.size w W) => Check_c a a1 a2 a3 W B (Nat.le_trans hB hW.size) (ha.below (hW.mono hB)))
  have HCB := Lib.hid (fun (W : World) (hW : Below w.heap.size w W) => Check_c b b1 b2 b3 W B (Nat.le_trans hB hW.size) (hb.below (hW.mono hB)))
  have HSA := Lib.hid (fun (W : World) (hW : Below w.heap.size w W) => scontains_c s a.langs a1 W (fun b => b < B) (fun b hb => by have : b < B := hb; have := hW.size; omega) (ha.langs.below strS (hW.mono hB)))
  have HSB := Lib.hid (fun (W : World) (hW : Below w.heap.size w W) => scontains_c s b.langs b1 W (fun b => b < B) (fun b hb => by have : b < B := hb; have := hW.size; omega) (hb.langs.below strS (hW.mono hB)))
  have b1_ : Below w.heap.size w ((w.alloc (catC a1 a2 a3)).alloc (catC b1 b2 b3)) := ((Below.refl _ _).alloc (Nat.le_refl _) _).alloc (by simp) _
  have hb0 : Below (w.heap.size + 2) ((w.alloc (catC a1 a2 a3)).alloc (catC b1 b2 b3)) ((w.alloc (catC a1 a2 a3)).alloc (catC b1 b2 b3)) := Below.refl _ _
  have KC := Lib.hid (fun (W : World) (hW : Below (w.heap.size + 2) ((w.alloc (catC a1 a2 a3)).alloc (catC b1 b2 b3)) W) => catW2_at hW)
  obtain ⟨El, Cl, rfl, -⟩ := id hl
  obtain ⟨A1, ca1, rfl, -⟩ := id ha.langs
  obtain ⟨A2, ca2, rfl, -⟩ := id ha.labels
  obtain ⟨A3, ca3, rfl, -⟩ := id ha.sheets
  obtain ⟨B1, cb1, rfl, -⟩ := id hb.langs
  obtain ⟨B2, cb2, rfl, -⟩ := id hb.labels
  obtain ⟨B3, cb3, rfl, -⟩ := id hb.sheets
  by_cases hc1 : chkL l = 0
  · rw [hc1] at HCL
    by_cases hc2 : catE a = 0
    · have HA0 := Lib.hid hc2
      rw [hc2] at HCA
      by_cases hc3 : catE b = 0
      · have HB0 := Lib.hid hc3
        rw [hc3] at HCB
        cases hs1 : a.langs.any (fun x => decide (x = s))
        · have HE := Lib.hid (show updE l a b s = 10 by unfold updE; rw [if_neg (by simp [hc1, hc2, hc3]), if_pos (.inl hs1)])
          have HU := Lib.hid (upd_err HE.out (by decide))
          rw [hs1] at HSA
          clear hc1 hc2 hc3 hs1
          go_enter Tryz.func36, Tryz.ntmps36
          go_wp2_with fail
          refine (HCL.out _ b1_).mono ?_
          rintro e w1 ⟨rfl, h1⟩
          have hbX := bnd_call hb0 (by simp) h1
          obtain ⟨z0, z1, z2, z3, z4, z5, zl⟩ := KC.out _ hbX
          have zl0 := Nat.lt_of_succ_lt zl
          go_wp2_with fail
          refine (HCA.out _ (b1_.trans (hbX.mono (by omega)))).mono ?_
          rintro e w2 ⟨rfl, h2⟩
          have hbX := bnd_call hbX (by simp) h2
          clear z0 z1 z2 z3 z4 z5 zl zl0 h1 h2
          obtain ⟨z0, z1, z2, z3, z4, z5, zl⟩ := KC.out _ hbX
          have zl0 := Nat.lt_of_succ_lt zl
          go_wp2_with fail
          refine (HCB.out _ (b1_.trans (hbX.mono (by omega)))).mono ?_
          rintro e w3 ⟨rfl, h3⟩
          have hbX := bnd_call hbX (by simp) h3
          clear z0 z1 z2 z3 z4 z5 zl zl0 h3
          obtain ⟨z0, z1, z2, z3, z4, z5, zl⟩ := KC.out _ hbX
          have zl0 := Nat.lt_of_succ_lt zl
          go_wp2_with fail
          refine (HSA.out _ (b1_.trans (hbX.mono (by omega)))).mono ?_
          rintro e w4 ⟨rfl, rfl⟩
          go_wp2
          go_ret3
          exact ⟨_, _, by rw [HE.out]; rfl, by rw [HU.out.1]; exact OwnRep.nil_, by rw [HU.out.2]; exact OwnRep.nil_, b1_.trans (hbX.mono (by omega))⟩
        · rw [hs1] at HSA
          cases hs2 : b.langs.any (fun x => decide (x = s))
          · have HE := Lib.hid (show updE l a b s = 10 by unfold updE; rw [if_neg (by simp [hc1, hc2, hc3]), if_pos (.inr hs2)])
            have HU := Lib.hid (upd_err HE.out (by decide))
            rw [hs2] at HSB
            clear hc1 hc2 hc3 hs1 hs2
            go_enter Tryz.func36, Tryz.ntmps36
            go_wp2_with fail
            refine (HCL.out _ b1_).mono ?_
            rintro e w1 ⟨rfl, h1⟩
            have hbX := bnd_call hb0 (by simp) h1
            obtain ⟨z0, z1, z2, z3, z4, z5, zl⟩ := KC.out _ hbX
            have zl0 := Nat.lt_of_succ_lt zl
            go_wp2_with fail
            refine (HCA.out _ (b1_.trans (hbX.mono (by omega)))).mono ?_
            rintro e w2 ⟨rfl, h2⟩
            have hbX := bnd_call hbX (by simp) h2
            clear z0 z1 z2 z3 z4 z5 zl zl0 h1 h2
            obtain ⟨z0, z1, z2, z3, z4, z5, zl⟩ := KC.out _ hbX
            have zl0 := Nat.lt_of_succ_lt zl
            go_wp2_with fail
            refine (HCB.out _ (b1_.trans (hbX.mono (by omega)))).mono ?_
            rintro e w3 ⟨rfl, h3⟩
            have hbX := bnd_call hbX (by simp) h3
            clear z0 z1 z2 z3 z4 z5 zl zl0 h3
            obtain ⟨z0, z1, z2, z3, z4, z5, zl⟩ := KC.out _ hbX
            have zl0 := Nat.lt_of_succ_lt zl
            go_wp2_with fail
            refine (HSA.out _ (b1_.trans (hbX.mono (by omega)))).mono ?_
            rintro e w4 ⟨rfl, rfl⟩
            go_wp2_with fail
            refine (HSB.out _ (b1_.trans (hbX.mono (by omega)))).mono ?_
            rintro e w5 ⟨rfl, rfl⟩
            go_wp2
            go_ret3
            exact ⟨_, _, by rw [HE.out]; rfl, by rw [HU.out.1]; exact OwnRep.nil_, by rw [HU.out.2]; exact OwnRep.nil_, b1_.trans (hbX.mono (by omega))⟩
          · rw [hs2] at HSB
            have HE := Lib.hid (show updE l a b s = if 65536 < (updO l a b s).length then 8 else 0 by unfold updE; rw [if_neg (by simp [hc1, hc2, hc3]), if_neg (by unfold hasS; simp [hs1, hs2])])
            have HL0 := Lib.hid hc1
            clear hc1 hc2 hc3 hs1 hs2
            go_enter Tryz.func36, Tryz.ntmps36
            go_wp2_with fail
            refine (HCL.out _ b1_).mono ?_
            rintro e w1 ⟨rfl, h1⟩
            have hbX := bnd_call hb0 (by simp) h1
            obtain ⟨z0, z1, z2, z3, z4, z5, zl⟩ := KC.out _ hbX
            have zl0 := Nat.lt_of_succ_lt zl
            go_wp2_with fail
            refine (HCA.out _ (b1_.trans (hbX.mono (by omega)))).mono ?_
            rintro e w2 ⟨rfl, h2⟩
            have hbX := bnd_call hbX (by simp) h2
            clear z0 z1 z2 z3 z4 z5 zl zl0 h1 h2
            obtain ⟨z0, z1, z2, z3, z4, z5, zl⟩ := KC.out _ hbX
            have zl0 := Nat.lt_of_succ_lt zl
            go_wp2_with fail
            refine (HCB.out _ (b1_.trans (hbX.mono (by omega)))).mono ?_
            rintro e w3 ⟨rfl, h3⟩
            have hbX := bnd_call hbX (by simp) h3
            clear z0 z1 z2 z3 z4 z5 zl zl0 h3
            obtain ⟨z0, z1, z2, z3, z4, z5, zl⟩ := KC.out _ hbX
            have zl0 := Nat.lt_of_succ_lt zl
            go_wp2_with fail
            refine (HSA.out _ (b1_.trans (hbX.mono (by omega)))).mono ?_
            rintro e w4 ⟨rfl, rfl⟩
            go_wp2_with fail
            refine (HSB.out _ (b1_.trans (hbX.mono (by omega)))).mono ?_
            rintro e w5 ⟨rfl, rfl⟩
            have hmm := @run_makeMap Tryz.prog
            have hsz := hbX.size
            simp at hsz
            go_wp2_with fail
            have hU := UpAt.make (o := .cells #[.slice A3 a.sheets.length ca3, .slice B3 b.sheets.length cb3] 39) hbX
            have hUb := hU.below
            have hz2 : ((((w3.alloc (.map #[] 0)).alloc (.cells #[.map (some w3.heap.size)] 54)).alloc (.cells #[.slice A3 a.sheets.length ca3, .slice B3 b.sheets.length cb3] 39))).heap[w3.heap.size + 1 + 1]? = some (.cells #[.slice A3 a.sheets.length ca3, .slice B3 b.sheets.length cb3] 39) := by
              have := heap_newU ((w3.alloc (.map #[] 0)).alloc (.cells #[.map (some w3.heap.size)] 54)) (.cells #[.slice A3 a.sheets.length ca3, .slice B3 b.sheets.length cb3] 39)
              simpa only [World.size_alloc] using this
            have HCT := Lib.hid (concatSh_c a.sheets b.sheets (.slice A3 a.sheets.length ca3) (.slice B3 b.sheets.length cb3) (w3.heap.size + 1 + 1) (((w3.alloc (.map #[] 0)).alloc (.cells #[.map (some w3.heap.size)] 54)).alloc (.cells #[.slice A3 a.sheets.length ca3, .slice B3 b.sheets.length cb3] 39)) B (Nat.le_trans hB hUb.size) (ha.sheets.below shtS (hUb.mono hB)) (hb.sheets.below shtS (hUb.mono hB)) (by have := (catE_zero HA0.out).2.2.1; omega) (by have := (catE_zero HB0.out).2.2.1; omega) (by rw [Lib.cell_of_heap hz2]; rfl) (by rw [Lib.cell_of_heap hz2]; rfl))
            refine HCT.out.mono ?_
            rintro e w6 ⟨vS, rfl, hownS, h6⟩
            have hU6 := hU.call h6
            have hS0 := own_sht0 hownS
            have hM6 : w3.heap.size + 3 ≤ w6.heap.size := by have := h6.size; simp at this; omega
            have hSl : ∀ b, vS.ownBlock = some b → w3.heap.size + 3 ≤ b ∧ b < w6.heap.size := fun b hb => by
              have := hownS.own_lt b hb
              simp at this
              omega
            obtain ⟨ES, nS, cS, rfl, hnS⟩ := own_form shtS hownS
            clear z0 z1 z2 z3 z4 z5 zl zl0 hbX HCL HCA HCB HSA HSB HCT hU h6 hownS
            have hHA := ha
            have hHB := hb
            obtain ⟨FA, hFA⟩ : ∃ FA : Int → List Post, ∀ u, FA u = ofF a s u := ⟨_, fun _ => rfl⟩
            obtain ⟨FB, hFB⟩ : ∃ FB : Int → List Post, ∀ u, FB u = ofF b s u := ⟨_, fun _ => rfl⟩
            have HOA := Lib.hid (fun (u : Int) (W : World) (hW : Below w.heap.size w W) => show Calls Tryz.prog 57 #[.agg #[.slice A1 a.langs.length ca1, .slice A2 a.labels.length ca2, .slice A3 a.sheets.length ca3], .string s, .int .i64 u] W fun e w' => ∃ v', e = .returned v' ∧ OwnRep 4 (flat Post.enc) 36 W.heap.size w' (FA u) v' ∧ Below W.heap.size W w' by
              rw [hFA]
              exact of_c a s u _ _ _ W B (Nat.le_trans hB hW.size) (hHA.below (hW.mono hB)) HA0.out)
            have HOB := Lib.hid (fun (u : Int) (W : World) (hW : Below w.heap.size w W) => show Calls Tryz.prog 57 #[.agg #[.slice B1 b.langs.length cb1, .slice B2 b.labels.length cb2, .slice B3 b.sheets.length cb3], .string s, .int .i64 u] W fun e w' => ∃ v', e = .returned v' ∧ OwnRep 4 (flat Post.enc) 36 W.heap.size w' (FB u) v' ∧ Below W.heap.size W w' by
              rw [hFB]
              exact of_c b s u _ _ _ W B (Nat.le_trans hB hW.size) (hHB.below (hW.mono hB)) HB0.out)
            have HLB := Lib.hid (fun u => show (FB u).length ≤ 200000 by rw [hFB]; exact ofF_len s u HB0.out)
            have HUS := Lib.hid (show updO l a b s = updF FA FB (unitsL a b) l by unfold updO; rw [show (fun u => ofF a s u) = FA from funext fun u => (hFA u).symm, show (fun u => ofF b s u) = FB from funext fun u => (hFB u).symm])
            have HUU := Lib.hid (show updE l a b s = 0 → updU l a b s = chgF FA FB (unitsL a b) from fun e => by unfold updU; rw [if_pos e, show (fun u => ofF a s u) = FA from funext fun u => (hFA u).symm, show (fun u => ofF b s u) = FB from funext fun u => (hFB u).symm])
            have HUN := Lib.hid (show unitsL a b = (a.sheets ++ b.sheets).map Sheet.unit from rfl)
            obtain ⟨us, hus⟩ : ∃ us, unitsL a b = us := ⟨_, rfl⟩
            rw [hus] at HUS HUU HUN
            have hN5 : (a.sheets ++ b.sheets).length ≤ 512 := by
              have h1 := (catE_zero HA0.out).2.2.1
              have h2 := (catE_zero HB0.out).2.2.1
              rw [List.length_append]
              omega
            generalize a.sheets ++ b.sheets = xs at *
            have hks := hnS.out
            clear hus hFA hFB
            have HG0 := Lib.hid (show seenG [] us = seenG [] (us.drop 0) ∧ moreG FA FB [] us = [] ++ moreG FA FB [] (us.drop 0) from ⟨rfl, rfl⟩)
            go_wp2
            go_loopw [12, 55] (fun m i wr => ∃ (k : Nat) (ks : List Int) (acc : List Post) (v' : Value), k ≤ xs.length ∧ i = .int .i64 k ∧ m = v' ∧ UpAt w (.slice A1 a.langs.length ca1) (.slice A2 a.labels.length ca2) (.slice A3 a.sheets.length ca3) (.slice B1 b.langs.length cb1) (.slice B2 b.labels.length cb2) (.slice B3 b.sheets.length cb3) w3.heap.size (w3.heap.size + 1) (chM FA FB ks) wr ∧ OwnRep 4 (flat Post.enc) 36 w6.heap.size wr acc v' ∧ SlRep 6 sht0 wr (fun b => Value.ownBlock (.slice ES nS cS) = some b) xs (.slice ES nS cS) ∧ w6.heap.size ≤ wr.heap.size ∧ Hid (seenG [] us = seenG ks (us.drop k) ∧ moreG FA FB [] us = acc ++ moreG FA FB ks (us.drop k)) ∧ acc.length ≤ k * 200000) (fun _ i _ => xs.length - (intOf i).toNat)
            case atStart => exact ⟨0, [], [], _, Nat.zero_le _, rfl, rfl, by rw [chM_nil]; exact hU6, OwnRep.nil_, hS0, Nat.le_refl _, HG0, by simp⟩
            case round =>
              clear HG0 hU6 hS0
              obtain ⟨k, ks, acc, v', hk, rfl, rfl, hU, hr, hS, hsz6, HG, hal⟩ := hrel
              have hro := hr.own_lt
              by_cases hlt : k < xs.length
              · obtain ⟨x, hx⟩ := get_at xs hlt
                obtain ⟨b0, off, A', n', c', rfl, hbB, g0, g1, g2, g3, g4, g5⟩ := Sheet0.at_ hS hx
                have hbB' := hSl b0 hbB
                have hbw : b0 < wr.heap.size := by omega
                have hki : (k : Int) < (nS : Int) := by omega
                have hux : us[k]? = some x.unit := by rw [HUN.out, List.getElem?_map, hx]; rfl
                have hud := drop_at hux
                have bx := (Below.refl wr.heap.size wr).alloc (Nat.le_refl _) (shtC x (.slice A' n' c'))
                have hUx := hU.call bx
                have hrx := hr.below pstS bx
                have hSx := hS.frame (w' := wr.alloc (shtC x (.slice A' n' c'))) sht0S (fun b hb => bx.block b (by have := hSl b hb; omega))
                by_cases hin : x.unit ∈ ks
                · have HN := Lib.hid (show seenG [] us = seenG ks (us.drop (k + 1)) ∧ moreG FA FB [] us = acc ++ moreG FA FB ks (us.drop (k + 1)) by
                    have h1 := HG.out
                    rw [hud, seenG, moreG, if_pos hin, if_pos hin] at h1
                    exact h1)
                  have hval : chM FA FB ks x.unit = some (decide (FA x.unit ≠ FB x.unit)) := by unfold chM; rw [if_pos hin]
                  obtain ⟨_, _, _, _, _, _, zm⟩ := hUx.cells
                  have zl := hUx.lt
                  generalize decide (FA x.unit ≠ FB x.unit) = bb at hval
                  clear HG hud hx hin
                  go_wp2_with (at_lookup; refine stop_intro ?_)
                  refine stop_elim ?_
                  refine wpList_look rfl (.tmp 60) (.tmp 62) 54 true rfl intKindU Tryz.underlying54 (zeroBoolU _) hUx.map rfl x.unit rfl (.tuple #[.bool bb, .bool true]) (by rw [hval]; rfl) ?_
                  clear hval
                  go_wp2
                  go_roundw
                  case rel => exact ⟨k + 1, ks, acc, _, by omega, by go_num, rfl, hUx, hrx, hSx, Nat.le_trans hsz6 bx.size, HN, Nat.le_trans hal (Nat.mul_le_mul_right _ (Nat.le_succ k))⟩
                  case measure => simp [intOf]; omega
                · have HN := Lib.hid (show seenG [] us = seenG (ks ++ [x.unit]) (us.drop (k + 1)) ∧ moreG FA FB [] us = acc ++ ((if FA x.unit = FB x.unit then [] else FB x.unit) ++ moreG FA FB (ks ++ [x.unit]) (us.drop (k + 1))) by
                    have h1 := HG.out
                    rw [hud, seenG, moreG, if_neg hin, if_neg hin] at h1
                    exact h1)
                  have hval : chM FA FB ks x.unit = none := by unfold chM; rw [if_neg hin]
                  obtain ⟨y0, y1, y2, y3, y4, y5, zm⟩ := hUx.cells
                  have zl := hUx.lt
                  have HOBx := Lib.hid (HOB.out x.unit _ hUx.below)
                  have HLBx := Lib.hid (HLB.out x.unit)
                  have hadd := chM_add FA FB ks x.unit
                  clear HG hud hx hin
                  go_wp2_with (at_lookup; refine stop_intro ?_)
                  refine stop_elim ?_
                  refine wpList_look rfl (.tmp 60) (.tmp 62) 54 true rfl intKindU Tryz.underlying54 (zeroBoolU _) hUx.map rfl x.unit rfl (.tuple #[.bool false, .bool false]) (by rw [hval]; rfl) ?_
                  clear hval
                  go_wp2_with fail
                  refine HOBx.out.mono ?_
                  rintro e w7 ⟨vB, rfl, hownB, h7⟩
                  have hU7 := hUx.call h7
                  have hr7 := hrx.below pstS h7
                  have hS7 := hSx.frame (w' := w7) sht0S (fun b hb => h7.block b (by have := hSl b hb; have := bx.size; omega))
                  have hlB := hownB.own_lt
                  have q0 : w7.cell? ⟨wr.heap.size, 0, none⟩ = some (.int .i64 x.unit) := (h7.cell (p := ⟨wr.heap.size, 0, none⟩) (by simp)).trans (by simp)
                  have hql : wr.heap.size < w7.heap.size := by have := h7.size; simp at this; omega
                  have hqn : some wr.heap.size ≠ some w3.heap.size := fun e => by injection e with e; have := hU.lt; omega
                  have KEEPU := Lib.hid (fun (f : Int → Option Bool) (W : World) (h : UpAt w (.slice A1 a.langs.length ca1) (.slice A2 a.labels.length ca2) (.slice A3 a.sheets.length ca3) (.slice B1 b.langs.length cb1) (.slice B2 b.labels.length cb2) (.slice B3 b.sheets.length cb3) w3.heap.size (w3.heap.size + 1) f W) (q : W.cell? ⟨wr.heap.size, 0, none⟩ = some (.int .i64 x.unit)) => (⟨h.cells.2.2.2.2.2.2, q, h.cells.1, h.cells.2.1, h.cells.2.2.1⟩ : W.cell? ⟨w3.heap.size + 1, 0, none⟩ = some (.map (some w3.heap.size)) ∧ W.cell? ⟨wr.heap.size, 0, none⟩ = some (.int .i64 x.unit) ∧ W.cell? ⟨w.heap.size, 0, none⟩ = some (.slice A1 a.langs.length ca1) ∧ W.cell? ⟨w.heap.size, 1, none⟩ = some (.slice A2 a.labels.length ca2) ∧ W.cell? ⟨w.heap.size, 2, none⟩ = some (.slice A3 a.sheets.length ca3)))
                  have hbX : Below w7.heap.size w7 w7.drew := (Below.refl _ _).drew
                  cases heb : eqL eqPost (FA x.unit) (FB x.unit)
                  · have hne : FA x.unit ≠ FB x.unit := fun e => by rw [(eqL_iff eqPost_iff _ _).2 e] at heb; cases heb
                    have HDE := Lib.hid (decide_eq_true hne)
                    rw [decide_eq_true hne] at hadd
                    rw [if_neg hne] at HN
                    clear y0 y1 y2 y3 y4 y5 zm zl hne
                    have HEQ := Lib.hid (fun (v v' : Value) (W : World) (h : SlRep 4 (flat Post.enc) W (fun b => b < W.heap.size) (FA x.unit) v) (h' : SlRep 4 (flat Post.enc) W (fun b => b < W.heap.size) (FB x.unit) v') => show Calls Tryz.prog 38 #[v, v'] W fun e w' => e = .returned (.bool false) ∧ Below W.heap.size W w' from
                      (equalPosts_c (FA x.unit) (FB x.unit) v v' W W.heap.size (Nat.le_refl _) h h').mono fun e w' ⟨h1, n, h2⟩ => ⟨by rw [heb] at h1; exact h1, by rw [h2]; exact below_drewN (Below.refl _ _) _⟩)
                    have HMU := Lib.hid (fun (W : World) (hm : MapF W w3.heap.size (fun n : Int => Value.int .i64 n) Value.bool (chM FA FB ks)) => show ∃ w', (Instr.mapUpdate 54 (.map (some w3.heap.size)) (.int .i64 x.unit) (.bool true)).run Tryz.prog W = .ok () w' ∧ MapF w' w3.heap.size (fun n : Int => Value.int .i64 n) Value.bool (upd (chM FA FB ks) x.unit true) ∧ W.grownBy w' (some w3.heap.size) from run_mapUpdate_at intKindU Tryz.underlying54 hm x.unit true)
                    go_wp2
                    go_region_held3 (fun W => W.cell? ⟨w3.heap.size + 1, 0, none⟩ = some (.map (some w3.heap.size)) ∧ W.cell? ⟨wr.heap.size, 0, none⟩ = some (.int .i64 x.unit) ∧ W.cell? ⟨w.heap.size, 0, none⟩ = some (.slice A1 a.langs.length ca1) ∧ W.cell? ⟨w.heap.size, 1, none⟩ = some (.slice A2 a.labels.length ca2) ∧ W.cell? ⟨w.heap.size, 2, none⟩ = some (.slice A3 a.sheets.length ca3)) (first | with_reducible exact KEEPU.out _ _ (hU7.call hbX) ((hbX.cell (p := ⟨wr.heap.size, 0, none⟩) hql).trans q0) | with_reducible exact hK9) (first
                      | (go_at_call 57; (with_reducible refine (HOA.out x.unit _ (hU7.below.trans (hbX.mono hU7.below.size))).mono ?_); rintro e w8 ⟨vA, rfl, hownA, h8⟩; have hbX := bnd_call hbX (Nat.le_refl _) h8; have hpA := hownA.toSl pstS; have hpB := ((hownB.toSl pstS).below pstS hbX).mono pstS hbX.size)
                      | (go_at_call 38; (with_reducible refine (HEQ.out _ _ _ hpA hpB).mono ?_); rintro e wE ⟨rfl, h9⟩; have hbX := bnd_call hbX (Nat.le_refl _) h9; obtain ⟨w9, hrun9, hm9, hg9⟩ := HMU.out wE (hU7.call hbX).map; have hU9 := (hU7.call hbX).put hm9 hg9; have hK9 := KEEPU.out _ _ hU9 ((World.cell?_of_block (a := ⟨wr.heap.size, 0, none⟩) (hg9.block wr.heap.size (Nat.lt_of_lt_of_le hql hbX.size) hqn)).trans ((hbX.cell (p := ⟨wr.heap.size, 0, none⟩) hql).trans q0)))) 

                    rw [hadd] at hU9
                    obtain ⟨k0, k1, -, -, -⟩ := hK9
                    have kl := hU9.lt
                    have hzX := hbX.size
                    have hz9 := hg9.size
                    have hr9 := (hr7.below pstS hbX).keep (w' := w9) (fun b hb => hg9.block b (by have := hro b hb; omega) (fun e => by injection e; have := hro b hb; omega))
                    have hS9 := (hS7.frame (w' := wE) sht0S (fun b hb => hbX.block b (by have := hSl b hb; omega))).frame (w' := w9) sht0S (fun b hb => hg9.block b (by have := hSl b hb; omega) (fun e => by injection e; have := hSl b hb; omega))
                    have hown9 := (hownB.below pstS hbX).keep (w' := w9) (fun b hb => hg9.block b (by have := hlB b hb; omega) (fun e => by injection e; have := hlB b hb; simp at this; have := hU.lt; omega))
                    clear hr7 hS7 hownB hbX hU7 hrun9 hm9 KEEPU HEQ HMU hadd hUx hrx hSx
                    go_wp2_with (at_lookup; refine stop_intro ?_)
                    refine stop_elim ?_
                    refine wpList_look rfl (.tmp 83) (.tmp 85) 54 false rfl intKindU Tryz.underlying54 (zeroBoolU _) hU9.map rfl x.unit rfl (.bool true) (by unfold chM; rw [if_pos (by simp)]; exact congrArg Value.bool HDE.out) ?_
                    have HAP := Lib.hid (fun b hb => hlB b hb)
                    have hlo9 := hown9.own_lt
                    have hs9 := hown9.toFlat pstS
                    have HL5 := HLBx.out
                    obtain ⟨Av, nv, cv, rfl, hnv⟩ := own_form pstS hr9
                    obtain ⟨AB, nB, cB, rfl, hnB⟩ := own_form pstS hown9
                    go_wp2_with (at_builtin; refine stop_intro ?_)
                    refine stop_elim ?_
                    refine wpList_append_rep rfl pstS pstE_ w6.heap.size (.tmp 87) (.tmp 88) rfl rfl hr9 rfl (ys := FB x.unit) hs9 (fun b' hb' => ⟨(hlo9 b' hb').2, fun e => by
                      have := (HAP.out b' hb').1
                      have := (hro b' e).2
                      simp at *
                      omega⟩) (by have : k * 200000 ≤ 512 * 200000 := Nat.mul_le_mul_right _ (by omega); omega) (by decide) (by omega) ?_
                    intro v10 w10 hown10 hg10 hat10
                    have hU10 := hU9.row hg10 (fun j hj => by have := (hro j hj).1; omega)
                    have hz10 := hg10.size
                    have hS10 := hS9.frame (w' := w10) sht0S (fun b hb => hg10.block b (by have := hSl b hb; omega) (fun e => by have := (hro b e.symm).1; have := hSl b hb; omega))
                    obtain ⟨A10, n10, c10, rfl, hn10⟩ := own_form pstS hown10
                    have HN2 := Lib.hid (show seenG [] us = seenG (ks ++ [x.unit]) (us.drop (k + 1)) ∧ moreG FA FB [] us = (acc ++ FB x.unit) ++ moreG FA FB (ks ++ [x.unit]) (us.drop (k + 1)) from ⟨HN.out.1, by rw [HN.out.2, List.append_assoc]⟩)
                    clear hg10 hat10 hr9 hown9 hs9 hS9 hU9 HN hg9
                    go_wp2
                    go_roundw
                    case rel => exact ⟨k + 1, ks ++ [x.unit], acc ++ FB x.unit, _, by omega, by go_num, rfl, hU10, hown10, hS10, by omega, HN2, by rw [List.length_append, Nat.add_mul]; omega⟩
                    case measure => simp [intOf]; omega
                  · have hne : FA x.unit = FB x.unit := (eqL_iff eqPost_iff _ _).1 heb
                    have HDE := Lib.hid (show decide (FA x.unit ≠ FB x.unit) = false from decide_eq_false (fun h => h hne))
                    rw [decide_eq_false (fun h => h hne)] at hadd
                    rw [if_pos hne] at HN
                    clear y0 y1 y2 y3 y4 y5 zm zl hne
                    have HEQ := Lib.hid (fun (v v' : Value) (W : World) (h : SlRep 4 (flat Post.enc) W (fun b => b < W.heap.size) (FA x.unit) v) (h' : SlRep 4 (flat Post.enc) W (fun b => b < W.heap.size) (FB x.unit) v') => show Calls Tryz.prog 38 #[v, v'] W fun e w' => e = .returned (.bool true) ∧ Below W.heap.size W w' from
                      (equalPosts_c (FA x.unit) (FB x.unit) v v' W W.heap.size (Nat.le_refl _) h h').mono fun e w' ⟨h1, n, h2⟩ => ⟨by rw [heb] at h1; exact h1, by rw [h2]; exact below_drewN (Below.refl _ _) _⟩)
                    have HMU := Lib.hid (fun (W : World) (hm : MapF W w3.heap.size (fun n : Int => Value.int .i64 n) Value.bool (chM FA FB ks)) => show ∃ w', (Instr.mapUpdate 54 (.map (some w3.heap.size)) (.int .i64 x.unit) (.bool false)).run Tryz.prog W = .ok () w' ∧ MapF w' w3.heap.size (fun n : Int => Value.int .i64 n) Value.bool (upd (chM FA FB ks) x.unit false) ∧ W.grownBy w' (some w3.heap.size) from run_mapUpdate_at intKindU Tryz.underlying54 hm x.unit false)
                    go_wp2
                    go_region_held3 (fun W => W.cell? ⟨w3.heap.size + 1, 0, none⟩ = some (.map (some w3.heap.size)) ∧ W.cell? ⟨wr.heap.size, 0, none⟩ = some (.int .i64 x.unit) ∧ W.cell? ⟨w.heap.size, 0, none⟩ = some (.slice A1 a.langs.length ca1) ∧ W.cell? ⟨w.heap.size, 1, none⟩ = some (.slice A2 a.labels.length ca2) ∧ W.cell? ⟨w.heap.size, 2, none⟩ = some (.slice A3 a.sheets.length ca3)) (first | with_reducible exact KEEPU.out _ _ (hU7.call hbX) ((hbX.cell (p := ⟨wr.heap.size, 0, none⟩) hql).trans q0) | with_reducible exact hK9) (first
                      | (go_at_call 57; (with_reducible refine (HOA.out x.unit _ (hU7.below.trans (hbX.mono hU7.below.size))).mono ?_); rintro e w8 ⟨vA, rfl, hownA, h8⟩; have hbX := bnd_call hbX (Nat.le_refl _) h8; have hpA := hownA.toSl pstS; have hpB := ((hownB.toSl pstS).below pstS hbX).mono pstS hbX.size)
                      | (go_at_call 38; (with_reducible refine (HEQ.out _ _ _ hpA hpB).mono ?_); rintro e wE ⟨rfl, h9⟩; have hbX := bnd_call hbX (Nat.le_refl _) h9; obtain ⟨w9, hrun9, hm9, hg9⟩ := HMU.out wE (hU7.call hbX).map; have hU9 := (hU7.call hbX).put hm9 hg9; have hK9 := KEEPU.out _ _ hU9 ((World.cell?_of_block (a := ⟨wr.heap.size, 0, none⟩) (hg9.block wr.heap.size (Nat.lt_of_lt_of_le hql hbX.size) hqn)).trans ((hbX.cell (p := ⟨wr.heap.size, 0, none⟩) hql).trans q0)))) 

                    rw [hadd] at hU9
                    obtain ⟨k0, k1, -, -, -⟩ := hK9
                    have kl := hU9.lt
                    have hzX := hbX.size
                    have hz9 := hg9.size
                    have hr9 := (hr7.below pstS hbX).keep (w' := w9) (fun b hb => hg9.block b (by have := hro b hb; omega) (fun e => by injection e; have := hro b hb; omega))
                    have hS9 := (hS7.frame (w' := wE) sht0S (fun b hb => hbX.block b (by have := hSl b hb; omega))).frame (w' := w9) sht0S (fun b hb => hg9.block b (by have := hSl b hb; omega) (fun e => by injection e; have := hSl b hb; omega))
                    have hown9 := (hownB.below pstS hbX).keep (w' := w9) (fun b hb => hg9.block b (by have := hlB b hb; omega) (fun e => by injection e; have := hlB b hb; simp at this; have := hU.lt; omega))
                    clear hr7 hS7 hownB hbX hU7 hrun9 hm9 KEEPU HEQ HMU hadd hUx hrx hSx
                    go_wp2_with (at_lookup; refine stop_intro ?_)
                    refine stop_elim ?_
                    refine wpList_look rfl (.tmp 83) (.tmp 85) 54 false rfl intKindU Tryz.underlying54 (zeroBoolU _) hU9.map rfl x.unit rfl (.bool false) (by unfold chM; rw [if_pos (by simp)]; exact congrArg Value.bool HDE.out) ?_
                    have HN2 := Lib.hid (show seenG [] us = seenG (ks ++ [x.unit]) (us.drop (k + 1)) ∧ moreG FA FB [] us = acc ++ moreG FA FB (ks ++ [x.unit]) (us.drop (k + 1)) from ⟨HN.out.1, by rw [HN.out.2, List.nil_append]⟩)
                    clear HN hg9
                    go_wp2
                    go_roundw
                    case rel => exact ⟨k + 1, ks ++ [x.unit], acc, _, by omega, by go_num, rfl, hU9, hr9, hS9, by omega, HN2, Nat.le_trans hal (Nat.mul_le_mul_right _ (Nat.le_succ k))⟩
                    case measure => simp [intOf]; omega
              · have hEND : ks = seenG [] us ∧ acc = moreG FA FB [] us := by
                  have h1 := HG.out
                  have hul : us.length = xs.length := by rw [HUN.out, List.length_map]
                  rw [List.drop_of_length_le (by omega)] at h1
                  refine ⟨h1.1.symm, ?_⟩
                  rw [h1.2]
                  simp [moreG]
                obtain ⟨hk1, hk2⟩ := hEND
                subst hk1
                have HSO := Lib.hid (sortPosts_c acc _ w6.heap.size wr hr (by have : k * 200000 ≤ 512 * 200000 := Nat.mul_le_mul_right _ (by omega); omega))
                have hU0 := Lib.hid hU
                have HCLN := Lib.hid (fun (W : World) (hW : Below w.heap.size w W) => clonePosts_c l (.slice El l.length Cl) W B (Nat.le_trans hB hW.size) (hl.below pstS (hW.mono hB)) hn)
                have HACC := Lib.hid hk2
                have hkx : ¬ (k : Int) < (nS : Int) := by omega
                obtain ⟨Av, nv, cv, rfl, hnv⟩ := own_form pstS hr
                clear hk2 HG hS hr hU
                go_wp2_with fail
                refine HSO.out.mono ?_
                rintro e w11 ⟨rfl, hr11, hg11⟩
                have hU11 := hU0.out.row hg11 (fun j hj => by have := (hro j hj).1; omega)
                clear HSO
                go_wp2_with fail
                refine (HCLN.out _ hU11.below).mono ?_
                rintro e w12 ⟨vc, rfl, hown12, h12⟩
                have hU12 := hU11.call h12
                have hr12 := hr11.below pstS h12
                have hlc := hown12.own_lt
                have hM11 := hg11.size
                have HDE := Lib.hid (delP_c 82 (.pointer (some ⟨w3.heap.size + 1, 0, none⟩)) (fun x => (chM FA FB (seenG [] us) x.unit).getD false) l vc w11.heap.size w12 hown12 h12.size (fun args W => enter_upd1 args W) (fun x W hg => by
                  have hUW := hU12.row hg (fun j hj => by have := (hlc j hj).1; omega)
                  exact upd1_c _ w3.heap.size (w3.heap.size + 1) x W hUW.cells.2.2.2.2.2.2 hUW.map))
                rw [rest_is] at HDE
                obtain ⟨Ac, nc, cc, rfl, hnc⟩ := own_form pstS hown12
                go_wp2_with fail
                refine HDE.out.mono ?_
                rintro e w13 ⟨vr, rfl, hown13, hg13⟩
                have hU13 := hU12.row hg13 (fun j hj => by have := (hlc j hj).1; omega)
                have hr13 := hr12.keep (w' := w13) (fun b hb => hg13.block b (by have := (hr12.own_lt b hb).2; omega) (fun e => by have := (hlc b e.symm).1; have := (hr11.own_lt b hb).2; omega))
                have HLEN := Lib.hid (show (updO l a b s).length = (restL (chgF FA FB us) l).length + acc.length by
                  rw [HUS.out]
                  unfold updF
                  rw [sortP_len, List.length_append, HACC.out, (more_perm FA FB us).length_eq])
                have hlr := List.length_filter_le (fun p => decide (p.unit ∉ chgF FA FB us)) l
                have hlr2 : (restL (chgF FA FB us) l).length ≤ 100000 := by unfold restL; omega
                have hna : nv = acc.length := by have := hr13.len_pos pstS; rw [sortP_len] at this; exact this
                obtain ⟨Ar, nr, cr, rfl, hnr⟩ := own_form pstS hown13
                have hnr' := hnr.out
                subst hna hnr'
                have hak : acc.length ≤ 102400000 := by
                  have : k * 200000 ≤ 512 * 200000 := Nat.mul_le_mul_right _ (by omega)
                  omega
                have hwr : IntKind.i64.wrap (((restL (chgF FA FB us) l).length : Int) + (acc.length : Int)) = ((restL (chgF FA FB us) l).length : Int) + (acc.length : Int) := IntWalk.i64_in _ (by omega)
                by_cases hbig : 65536 < (updO l a b s).length
                · have HE8 := Lib.hid (show updE l a b s = 8 by rw [HE.out, if_pos hbig])
                  have HU8 := Lib.hid (upd_err HE8.out (by decide))
                  have hb1 : (65536 : Int) < ((restL (chgF FA FB us) l).length : Int) + (acc.length : Int) := by have := HLEN.out; omega
                  have HBW := Lib.hid hU13.below
                  clear hbig
                  go_wp2
                  go_ret3
                  exact ⟨_, _, by rw [HE8.out]; rfl, by rw [HU8.out.1]; exact OwnRep.nil_, by rw [HU8.out.2]; exact OwnRep.nil_, HBW.out⟩
                · have HE0 := Lib.hid (show updE l a b s = 0 by rw [HE.out, if_neg hbig])
                  have hb1 : ¬ (65536 : Int) < ((restL (chgF FA FB us) l).length : Int) + (acc.length : Int) := by have := HLEN.out; omega
                  clear hbig
                  obtain ⟨es, clock, hma, hmg⟩ := id hU13.map
                  obtain ⟨_, _, _, _, _, _, zm⟩ := hU13.cells
                  have zl := hU13.lt
                  go_wp2_with (with_reducible refine stop_range ?_)
                  refine stop_elim ?_
                  refine wpList_rng rfl (.tmp 103) rfl Tryz.underlying54 hma rfl (r := w13.heap.size) rfl ?_
                  intro w14 hma14 hit14 hw14
                  have h14 : Below w13.heap.size w13 w14 := by rw [hw14]; exact (Below.refl _ _).alloc (Nat.le_refl _) _
                  have hz14 : w14.heap.size = w13.heap.size + 1 := by rw [hw14]; simp
                  have hU14 := hU13.call h14
                  have hU14w : w.heap.size + 2 ≤ w3.heap.size ∧ w3.heap.size + 1 < w13.heap.size := ⟨hU13.ml, hU13.lt⟩
                  have hrs14 := hown13.below pstS h14
                  have hmr14 := hr13.below pstS h14
                  have hlr13 := hown13.own_lt
                  have hlm13 := hr13.own_lt
                  have HMG := Lib.hid hmg
                  have HKEY := Lib.hid hma.keys
                  have HBORN := Lib.hid hma.born
                  have hel5 := Lib.hid (show es.length ≤ 512 by
                      rw [map_len (f := chM FA FB (seenG [] us)) HMG.out HKEY.out (seenG_nodup us [] List.nodup_nil) (fun k => by unfold chM; by_cases h : k ∈ seenG [] us <;> simp [h])]
                      have h1 := seenG_len us []
                      have h2 : us.length = xs.length := by rw [HUN.out, List.length_map]
                      simp at h1
                      omega)
                  clear hw14 hma hU13 hown13 hr13 hmg hU12 hU11 hr11 hr12 hown12
                  have HP0 := Lib.hid (show ([] : List Int).Perm ((es.filter fun e => decide (e.2.2 ∈ ([] : List Nat)) && e.2.1).map (·.1)) by simp)
                  go_wp2
                  go_frame
                  go_loopg [19] es.length (fun gk un wi => ∃ (seen : List Nat) (ys : List Int), (es.filter fun e => !decide (e.2.2 ∈ seen)).length ≤ gk ∧ MapAt wi w3.heap.size (fun n : Int => Value.int .i64 n) Value.bool es clock ∧ IterAt wi w13.heap.size w3.heap.size clock seen ∧ OwnRep 1 (flat intEnc) 3 (w13.heap.size + 1) wi ys un ∧ Hid (ys.Perm ((es.filter fun e => decide (e.2.2 ∈ seen) && e.2.1).map (·.1))) ∧ UpAt w (.slice A1 a.langs.length ca1) (.slice A2 a.labels.length ca2) (.slice A3 a.sheets.length ca3) (.slice B1 b.langs.length cb1) (.slice B2 b.labels.length cb2) (.slice B3 b.sheets.length cb3) w3.heap.size (w3.heap.size + 1) (chM FA FB (seenG [] us)) wi ∧ OwnRep 4 (flat Post.enc) 36 w11.heap.size wi (restL (chgF FA FB us) l) (.slice Ar (restL (chgF FA FB us) l).length cr) ∧ OwnRep 4 (flat Post.enc) 36 w6.heap.size wi (sortP acc) (.slice Av acc.length cv) ∧ w13.heap.size + 1 ≤ wi.heap.size)
                  case atStart => exact ⟨[], [], List.length_filter_le _ _, hma14, hit14, OwnRep.nil_, HP0, hU14, hrs14, hmr14, Nat.le_of_eq hz14.symm⟩
                  case round =>
                    clear hma14 hit14 hU14 hrs14 hmr14 HP0
                    obtain ⟨seen, ys, hgk, hmi, hii, hys, HP, hUi, hri, hmi2, hzi⟩ := hrel
                    have hiw := hii.lt
                    have hyl := hys.own_lt
                    have hrl := hri.own_lt
                    have hml := hmi2.own_lt
                    go_wp2_with (with_reducible refine stop_next ?_)
                    refine stop_elim ?_
                    refine wpList_nxt rfl (.tmp 104) rfl hmi hii rfl ?_ ?_
                    · intro hall
                      have hfin : ys.Perm ((es.filter fun e => e.2.1).map (·.1)) := by
                        have := HP.out
                        rwa [show (es.filter fun e => decide (e.2.2 ∈ seen) && e.2.1) = es.filter fun e => e.2.1 from List.filter_congr fun e he => by simp [hall e he]] at this
                      have HFIN := Lib.hid hfin
                      have HBW := Lib.hid hUi.below
                      have hel := hel5.out
                      have hyl2 : ys.length ≤ es.length := by
                        rw [hfin.length_eq, List.length_map]
                        exact List.length_filter_le _ _
                      have HSI := Lib.hid (sortInts_c ys _ (w13.heap.size + 1) wr hys (by omega))
                      have HZZ := Lib.hid (And.intro hlr13 hlm13)
                      have hLN := HLEN.out
                      have hnb : ¬ 65536 < (updO l a b s).length := fun h => by
                        have := HE.out
                        rw [if_pos h, HE0.out] at this
                        cases this
                      obtain ⟨Au, nu, cu, rfl, hnu⟩ := own_form intS hys
                      clear hall hfin hgk hmi hii HP hyl2 hel
                      go_wp2_with fail
                      refine HSI.out.mono ?_
                      rintro e w16 ⟨rfl, zs, hzp, hzs, hown16, hg16⟩
                      have hz : zs = chgF FA FB us := coll_is FA FB HKEY.out (fun k => HMG.out k) (hzp.trans HFIN.out) hzs
                      subst hz
                      have hz16 := hg16.size
                      have hr16 := hri.keep (w' := w16) (fun b hb => hg16.block b (hrl b hb).2 (fun e => by have := (hyl b e.symm).1; have := (HZZ.out.1 b hb).2; omega))
                      have hm16 := hmi2.keep (w' := w16) (fun b hb => hg16.block b (hml b hb).2 (fun e => by have := (hyl b e.symm).1; have := (HZZ.out.2 b hb).2; omega))
                      have hB16 := HBW.out.grown hg16 HBW.out.size (fun j hj => by have := (hyl j hj).1; have := hU14w; omega)
                      have HMR := Lib.hid (merged_c (restL (chgF FA FB us) l) (sortP acc) _ _ w16 w16.heap.size (Nat.le_refl _) (hr16.toSl pstS) (hm16.toSl pstS) (by rw [sortP_len]; omega))
                      have HUPD := Lib.hid (show mergeP (restL (chgF FA FB us) l) (sortP acc) = updL l a b s by
                        unfold updL
                        rw [if_pos HE0.out, HUS.out, HACC.out]
                        exact upd_prog FA FB (strict_sorted (chkL_zero HL0.out).2.2))
                      have HUUU := Lib.hid (HUU.out HE0.out)
                      clear hzp hzs hri hmi2 hys HSI hg16
                      go_wp2_with fail
                      refine HMR.out.mono ?_
                      rintro e w17 ⟨vm, rfl, hown17, h17⟩
                      have hu17 := hown16.below intS h17
                      have hB17 := hB16.trans (h17.mono hB16.size)
                      rw [HUPD.out] at hown17
                      go_wp2
                      go_ret3
                      exact ⟨_, _, by rw [HE0.out]; rfl, hown17.base_le hB16.size, by rw [HUUU.out]; exact hu17.base_le (by have := hU14w; omega), hB17⟩
                    · rintro ⟨eu, eb, et⟩ he hes w15 hm15 hi15 hg15
                      have hz15 := hg15.size
                      have hpw := hUi.lt
                      have hU15 := hUi.row hg15 (fun j hj => by injection hj; have := hU14w; omega)
                      have hr15 := hri.keep (w' := w15) (fun b hb => hg15.block b (hrl b hb).2 (fun e => by injection e; have := (hlr13 b hb).2; omega))
                      have hm15b := hmi2.keep (w' := w15) (fun b hb => hg15.block b (hml b hb).2 (fun e => by injection e; have := (hlm13 b hb).2; omega))
                      have hys15 := hys.keep (w' := w15) (fun b hb => hg15.block b (hyl b hb).2 (fun e => by injection e; have := (hyl b hb).1; omega))
                      have hun := unseen_less he hes
                      have hst := (coll_step HBORN.out he hes).map (·.1)
                      rw [List.map_append] at hst
                      go_wp2_with (with_reducible refine stop_entry ?_)
                      refine stop_elim ?_
                      refine wpList_ent rfl (.tmp 104) rfl hm15 he hi15 rfl ?_
                      cases eb
                      · have HP2 := Lib.hid (show ys.Perm ((es.filter fun e => decide (e.2.2 ∈ seen ++ [et]) && e.2.1).map (·.1)) from HP.out.trans (by simpa using hst.symm))
                        clear hst hg15 hUi hri hmi2 hys
                        go_wp2
                        go_roundg ((es.filter fun e => !decide (e.2.2 ∈ seen ++ [et])).length)
                        case measure => exact Nat.lt_of_lt_of_le hun hgk
                        case rel => exact ⟨seen ++ [et], ys, Nat.le_refl _, hm15, hi15, hys15, HP2, hU15, hr15, hm15b, by omega⟩
                      · have HP2 := Lib.hid (show (ys ++ [eu]).Perm ((es.filter fun e => decide (e.2.2 ∈ seen ++ [et]) && e.2.1).map (·.1)) from (HP.out.append_right [eu]).trans (by simpa using hst.symm))
                        have hyp : ys.length ≤ es.length := by
                          rw [HP.out.length_eq, List.length_map]
                          exact List.length_filter_le _ _
                        have bx15 := (Below.refl w15.heap.size w15).alloc (Nat.le_refl _) (.cells #[.int .i64 eu] 3)
                        have hysx := hys15.below intS bx15
                        have hUx := hU15.call bx15
                        have hrx := hr15.below pstS bx15
                        have hmx := hm15b.below pstS bx15
                        have hylx := hys15.own_lt
                        have hrlx := hr15.own_lt
                        have hmlx := hm15b.own_lt
                        have HEE := Lib.hid (And.intro hlr13 hlm13)
                        obtain ⟨Ay, ny, cy, rfl, hny⟩ := own_form intS hys
                        clear hst hg15 hUi hri hmi2 hys hys15
                        go_wp2_with (at_builtin; refine stop_intro ?_)
                        refine stop_elim ?_
                        refine wpList_append_rep rfl intS intE_ (w13.heap.size + 1) (.tmp 111) (.tmp 113) rfl rfl hysx rfl (ys := [eu]) (SlRep.one_new intS (w := w15) (F := fun _ => False) (x := eu) (cs := [.int .i64 eu]) rfl rfl (fun b hb => hb.elim)) (fun b hb => by
                          rcases hb with hb | rfl
                          · exact hb.elim
                          · exact ⟨by simp, fun e => by have := (hylx _ e).2; omega⟩) (by simp only [List.length_cons, List.length_nil]; have := hel5.out; omega) (by decide) (by simp; omega) ?_
                        intro v18 w18 hown18 hg18' hat18
                        have hg18 : (w15.alloc (.cells #[.int .i64 eu] 3)).grownBy w18 (Value.ownBlock (.slice Ay ny cy)) := hg18'
                        have hz18 := hg18.size
                        simp only [World.size_alloc] at hz18
                        have hU18 := hUx.row hg18 (fun j hj => by have := (hylx j hj).1; have := hU14w; omega)
                        have hr18 := hrx.keep (w' := w18) (fun b hb => hg18.block b (by have := (hrlx b hb).2; simp; omega) (fun e => by have := (hylx b e.symm).1; have := (HEE.out.1 b hb).2; omega))
                        have hm18 := hmx.keep (w' := w18) (fun b hb => hg18.block b (by have := (hmlx b hb).2; simp; omega) (fun e => by have := (hylx b e.symm).1; have := (HEE.out.2 b hb).2; omega))
                        have hma18 := (hm15.frame (w' := w15.alloc (.cells #[.int .i64 eu] 3)) (bx15.block _ (by have := hU14w; omega))).frame (w' := w18) (hg18.block _ (by have := hU14w; simp; omega) (fun e => by have := (hylx _ e.symm).1; have := hU14w; omega))
                        have hit18 := (hi15.frame (w' := w15.alloc (.cells #[.int .i64 eu] 3)) (bx15.block _ (by omega))).frame (w' := w18) (hg18.block _ (by simp; omega) (fun e => by have := (hylx _ e.symm).1; omega))
                        clear hg18' hg18 hat18 hUx hrx hmx hysx hm15 hi15 hm15b hr15 hU15
                        obtain ⟨A18, n18, c18, rfl, hn18⟩ := own_form intS hown18
                        go_wp2
                        go_roundg ((es.filter fun e => !decide (e.2.2 ∈ seen ++ [et])).length)
                        case measure => exact Nat.lt_of_lt_of_le hun hgk
                        case rel => exact ⟨seen ++ [et], ys ++ [eu], Nat.le_refl _, hma18, hit18, hown18, HP2, hU18, hr18, hm18, by omega⟩
      · have HE := Lib.hid (show updE l a b s = 1 by unfold updE; rw [if_pos (.inr (.inr hc3))])
        have HU := Lib.hid (upd_err HE.out (by decide))
        have hne : (catE b != 0) = true := by simpa using hc3
        clear hc1 hc2 hc3
        go_enter Tryz.func36, Tryz.ntmps36
        go_wp2_with fail
        refine (HCL.out _ b1_).mono ?_
        rintro e w1 ⟨rfl, h1⟩
        have hbX := bnd_call hb0 (by simp) h1
        obtain ⟨z0, z1, z2, z3, z4, z5, zl⟩ := KC.out _ hbX
        have zl0 := Nat.lt_of_succ_lt zl
        go_wp2_with fail
        refine (HCA.out _ (b1_.trans (hbX.mono (by omega)))).mono ?_
        rintro e w2 ⟨rfl, h2⟩
        have hbX := bnd_call hbX (by simp) h2
        clear z0 z1 z2 z3 z4 z5 zl zl0 h1 h2
        obtain ⟨z0, z1, z2, z3, z4, z5, zl⟩ := KC.out _ hbX
        have zl0 := Nat.lt_of_succ_lt zl
        go_wp2_with fail
        refine (HCB.out _ (b1_.trans (hbX.mono (by omega)))).mono ?_
        rintro e w3 ⟨rfl, h3⟩
        have hbX := bnd_call hbX (by simp) h3
        go_wp2
        go_ret3
        exact ⟨_, _, by rw [HE.out]; rfl, by rw [HU.out.1]; exact OwnRep.nil_, by rw [HU.out.2]; exact OwnRep.nil_, b1_.trans (hbX.mono (by omega))⟩
    · have HE := Lib.hid (show updE l a b s = 1 by unfold updE; rw [if_pos (.inr (.inl hc2))])
      have HU := Lib.hid (upd_err HE.out (by decide))
      have hne : (catE a != 0) = true := by simpa using hc2
      clear hc1 hc2
      go_enter Tryz.func36, Tryz.ntmps36
      go_wp2_with fail
      refine (HCL.out _ b1_).mono ?_
      rintro e w1 ⟨rfl, h1⟩
      have hbX := bnd_call hb0 (by simp) h1
      obtain ⟨z0, z1, z2, z3, z4, z5, zl⟩ := KC.out _ hbX
      have zl0 := Nat.lt_of_succ_lt zl
      go_wp2_with fail
      refine (HCA.out _ (b1_.trans (hbX.mono (by omega)))).mono ?_
      rintro e w2 ⟨rfl, h2⟩
      have hbX := bnd_call hbX (by simp) h2
      go_wp2
      go_ret3
      exact ⟨_, _, by rw [HE.out]; rfl, by rw [HU.out.1]; exact OwnRep.nil_, by rw [HU.out.2]; exact OwnRep.nil_, b1_.trans (hbX.mono (by omega))⟩
  · have HE := Lib.hid (show updE l a b s = 1 by unfold updE; rw [if_pos (.inl hc1)])
    have HU := Lib.hid (upd_err HE.out (by decide))
    have hne : (chkL l != 0) = true := by simpa using hc1
    clear hc1
    go_enter Tryz.func36, Tryz.ntmps36
    go_wp2_with fail
    refine (HCL.out _ b1_).mono ?_
    rintro e w1 ⟨rfl, h1⟩
    have hbX := bnd_call hb0 (by simp) h1
    go_wp2
    go_ret3
    exact ⟨_, _, by rw [HE.out]; rfl, by rw [HU.out.1]; exact OwnRep.nil_, by rw [HU.out.2]; exact OwnRep.nil_, b1_.trans (hbX.mono (by omega))⟩

theorem shtG_units {ls : List ByteArray} : ∀ (r bf : List Sheet) (p : List Int), shtG ls bf p r = 0 → (∀ x ∈ r, ∀ y ∈ bf, y.unit ≠ x.unit) ∧ (r.map Sheet.unit).Nodup
  | [], _, _, _ => ⟨by simp, by simp⟩
  | s :: r, bf, p, h => by
    rw [shtG_cons] at h
    by_cases h0 : shtF ls bf p s = 0
    · rw [if_pos h0] at h
      obtain ⟨i1, i2⟩ := shtG_units r (bf ++ [s]) _ h
      have hs : ∀ y ∈ bf, y.unit ≠ s.unit := by
        intro y hy e
        have h6 : ¬ (0 ≤ shtIx bf s.unit) := by
          intro h6
          unfold shtF at h0
          repeat' split at h0
          all_goals first | (cases h0; done) | omega
        rcases idxF_cases (fun x : Sheet => decide (x.unit = s.unit)) bf with ⟨-, g2⟩ | ⟨k, x, g1, -⟩
        · have := g2 y hy
          simp [e] at this
        · have : shtIx bf s.unit = (k : Int) := g1
          omega
      refine ⟨fun x hx y hy => ?_, ?_⟩
      · rcases List.mem_cons.1 hx with rfl | hx
        · exact hs y hy
        · exact i1 x hx y (List.mem_append.2 (.inl hy))
      · rw [List.map_cons, List.nodup_cons]
        refine ⟨fun hm => ?_, i2⟩
        obtain ⟨x, hx, e⟩ := List.mem_map.1 hm
        exact i1 x hx s (by simp) e.symm
    · rw [if_neg h0] at h
      exact absurd h h0
theorem units_nodup {c : Cat} (h : catE c = 0) : (c.sheets.map Sheet.unit).Nodup := by
  have h0 : shtG c.langs [] [] c.sheets = 0 := by
    unfold catE at h
    by_cases h1 : langE c.langs = 0
    · rw [if_neg (by simp [h1])] at h
      by_cases h2 : labE c.langs c.labels = 0
      · rw [if_neg (by simp [h2])] at h
        unfold shtE at h
        by_cases h3 : 256 < c.sheets.length
        · rw [if_pos h3] at h; cases h
        · rw [if_neg h3] at h; exact h
      · rw [if_pos h2] at h; exact absurd h h2
    · rw [if_pos h1] at h; exact absurd h h1
  exact (shtG_units c.sheets [] [] h0).2
theorem ofF_raw {c : Cat} {s : ByteArray} {u : Int} {p : Post} : p ∈ ofF c s u ↔ p ∈ rawF c s u := sortP_mem
theorem ofF_right {c : Cat} {s : ByteArray} {u : Int} {p : Post} (h0 : catE c = 0) (hp : p ∈ ofF c s u) : rightP p = true ∧ p.unit = u := by
  rw [ofF_raw] at hp
  rcases idxF_cases (fun x : Sheet => decide (x.unit = u)) c.sheets with ⟨h1, -⟩ | ⟨k, x, h1, h2, h3, -⟩
  · have hi : shtIx c.sheets u = -1 := h1
    rw [raw_none (by omega)] at hp
    cases hp
  · have hi : shtIx c.sheets u = (k : Int) := h1
    have hxu : x.unit = u := by simpa using h3
    obtain ⟨hz1, hz2, -⟩ := (catE_zero h0).2.2.2 x (List.mem_of_getElem? h2)
    obtain ⟨-, hcm⟩ := chosen_facts (s := s) h0 hi h2
    rw [raw_at hi h2] at hp
    have key : ∀ {n : Int} {t : ByteArray}, p ∈ putF u n t → t.size ≤ 4096 → (n = -1 ∨ (1 ≤ n ∧ n ≤ 64)) → rightP p = true ∧ p.unit = u := by
      intro n t hpt ht hn
      obtain ⟨k1, k2, k3, k4, k5, k6⟩ := putF_mem hpt
      refine ⟨?_, k1⟩
      unfold rightP
      rw [k3]
      simp only [Bool.true_and, Bool.and_eq_true, decide_eq_true_eq]
      omega
    rcases List.mem_append.1 hp with hp | hp
    · exact key hp (by omega) (.inl rfl)
    · obtain ⟨f, hf, hpf⟩ := List.mem_flatMap.1 hp
      have := hcm f hf
      exact key hpf this.2.2.2 (.inr ⟨this.2.1, this.2.2.1⟩)
theorem ofF_out {c : Cat} {s : ByteArray} {u : Int} (hu : u ∉ c.sheets.map Sheet.unit) : ofF c s u = [] := by
  rcases idxF_cases (fun x : Sheet => decide (x.unit = u)) c.sheets with ⟨h1, -⟩ | ⟨k, x, h1, h2, h3, -⟩
  · have hi : shtIx c.sheets u = -1 := h1
    unfold ofF
    rw [raw_none (by omega)]
    rfl
  · exact absurd (List.mem_map.2 ⟨x, List.mem_of_getElem? h2, by simpa using h3⟩) hu
theorem ofF_nodup {c : Cat} {s : ByteArray} {u : Int} (h0 : catE c = 0) (hs : hasS c.langs s = true) : (ofF c s u).Nodup := by
  refine (sortP_perm (rawF c s u)).nodup_iff.2 ?_
  rcases idxF_cases (fun x : Sheet => decide (x.unit = u)) c.sheets with ⟨h1, -⟩ | ⟨k, x, h1, h2, h3, -⟩
  · have hi : shtIx c.sheets u = -1 := h1
    rw [raw_none (by omega)]
    exact List.nodup_nil
  · have hi : shtIx c.sheets u = (k : Int) := h1
    obtain ⟨-, hcm⟩ := chosen_facts (s := s) h0 hi h2
    have hch := chosen_ok h0 (hasS_iff.1 hs) hi h2
    rw [raw_at hi h2]
    refine List.nodup_append.2 ⟨putG_nodup _ _ _ _, ?_, ?_⟩
    · refine List.pairwise_flatMap.2 ⟨fun f _ => putG_nodup _ _ _ _, ?_⟩
      have hpw : ((chooseR c u s).map Fact.el).Pairwise (· < ·) := by rw [hch.els]; exact hch.asc
      rw [List.pairwise_map] at hpw
      refine hpw.imp ?_
      intro f g hfg p hp q hq e
      have e1 := (putF_mem hp).2.1
      have e2 := (putF_mem hq).2.1
      rw [e] at e1
      omega
    · intro p hp q hq e
      obtain ⟨f, hf, hq⟩ := List.mem_flatMap.1 hq
      have e1 := (putF_mem hp).2.1
      have e2 := (putF_mem hq).2.1
      have := hcm f hf
      rw [e] at e1
      omega
theorem allF_is (c : Cat) (s : ByteArray) : allF c s = (c.sheets.map Sheet.unit).flatMap fun u => ofF c s u := by
  unfold allF
  rw [List.flatMap_map]
theorem allF_nodup {c : Cat} {s : ByteArray} (h0 : catE c = 0) (hs : hasS c.langs s = true) : (allF c s).Nodup := by
  rw [allF_is]
  refine List.pairwise_flatMap.2 ⟨fun u _ => ofF_nodup h0 hs, ?_⟩
  refine (units_nodup h0).imp ?_
  intro u v huv p hp q hq e
  have e1 := (ofF_right h0 hp).2
  have e2 := (ofF_right h0 hq).2
  rw [e] at e1
  exact huv (e1.symm.trans e2)
theorem buildE_zero {c : Cat} {s : ByteArray} (h : buildE c s = 0) : catE c = 0 ∧ hasS c.langs s = true ∧ (allF c s).length ≤ 65536 := by
  unfold buildE at h
  by_cases h0 : rightE c s = 0
  · rw [if_neg (show ¬ (rightE c s ≠ 0) from fun h => h h0)] at h
    by_cases h1 : 65536 < (allF c s).length
    · rw [if_pos h1] at h; cases h
    · exact ⟨(right_zero h0).1, (right_zero h0).2, by omega⟩
  · rw [if_pos h0] at h
    exact absurd h h0
theorem build_list {c : Cat} {s : ByteArray} (h : buildE c s = 0) : buildF c s = sortP (allF c s) := by unfold buildF; rw [if_pos h]
theorem build_none {c : Cat} {s : ByteArray} (h : buildE c s ≠ 0) : buildF c s = [] := by unfold buildF; rw [if_neg h]
theorem build_right {c : Cat} {s : ByteArray} (h : buildE c s = 0) : chkL (buildF c s) = 0 := by
  obtain ⟨h0, hs, hl⟩ := buildE_zero h
  rw [build_list h]
  refine chkL_of (by rw [sortP_len]; exact hl) (fun p hp => ?_) (sorted_strict (sortP_sorted _) ((sortP_perm _).nodup_iff.2 (allF_nodup h0 hs)))
  rw [sortP_mem] at hp
  obtain ⟨x, hx, hpx⟩ := List.mem_flatMap.1 hp
  exact (ofF_right h0 hpx).1
/-- from one catalog to the next -/
theorem scratch_upd {a b : Cat} {s : ByteArray} (ha : buildE a s = 0) : updE (buildF a s) a b s = buildE b s ∧ updL (buildF a s) a b s = buildF b s := by
  obtain ⟨a0, as_, -⟩ := buildE_zero ha
  have hE : updE (buildF a s) a b s = buildE b s ∧ (buildE b s = 0 → updO (buildF a s) a b s = buildF b s) := by
    by_cases hb : catE b = 0
    · cases hs : hasS b.langs s
      · have hr : buildE b s = 10 := by
          have : rightE b s = 10 := by unfold rightE; rw [if_neg (show ¬ (catE b ≠ 0) from fun h => h hb), if_pos hs]
          unfold buildE
          rw [if_pos (by rw [this]; decide), this]
        rw [hr]
        refine ⟨?_, fun h => by cases h⟩
        unfold updE
        rw [build_right ha, a0, hb, hs]
        simp
      · have hU : updO (buildF a s) a b s = sortP (allF b s) := by
          unfold updO unitsL
          rw [build_list ha, allF_is, allF_is, List.map_append]
          exact upd_scratch _ _ (fun u p hp => (ofF_right a0 hp).2) (units_nodup a0) (units_nodup hb) (fun u hu => ofF_out hu) (fun u hu => ofF_out hu)
        have hr : rightE b s = 0 := by unfold rightE; rw [if_neg (show ¬ (catE b ≠ 0) from fun h => h hb), if_neg (show ¬ (hasS b.langs s = false) by rw [hs]; decide)]
        refine ⟨?_, fun h => by rw [hU, build_list h]⟩
        unfold updE buildE
        rw [build_right ha, a0, hb, hs, as_, hU, sortP_len, hr]
        simp
    · have hr : buildE b s = 1 := by
        have : rightE b s = 1 := by unfold rightE; rw [if_pos hb]
        unfold buildE
        rw [if_pos (by rw [this]; decide), this]
      rw [hr]
      refine ⟨?_, fun h => by cases h⟩
      unfold updE
      rw [if_pos (.inr (.inr hb))]
  refine ⟨hE.1, ?_⟩
  unfold updL
  rw [hE.1]
  by_cases h : buildE b s = 0
  · rw [if_pos h, hE.2 h]
  · rw [if_neg h, build_none h]
end Go.Proofs.YtngodakkdhdmjaaGreatDoor
