/- The reference: how many points a number has, the tag of a level, a section. -/
import Derived.Test.YtbmlnflacdockaaGreatDoorRaH
import Derived.Test.YtbmlnflacdockaaGreatDoorCmB
namespace Go.Proofs.YtbmlnflacdockaaGreatDoor
open Go.RowKit

/-- a section whose nodes lie from block m on -/
structure SecAr (w0 : World) (v1 v2 v3 vf : Value) (s : Sheet) (n : ByteArray) (go : Nat) (v : Value) (l : List Node) (W : World) : Prop where
  blk : W.heap[go]? = some (.cells #[.int .i64 s.unit, .string n, v] 70 (0, 0))
  row : OwnRep 3 (flat Node.enc) 61 (w0.heap.size + 3) W l v
  ne : v.ownBlock ≠ some go
  lo : w0.heap.size + 3 ≤ go
  cb : W.heap[w0.heap.size]? = some (.cells #[v1, v2, v3] 26 (0, 0))
  rb : W.heap[w0.heap.size + 1]? = some (.cells #[.int .i64 0, .string ⟨#[]⟩, .slice none 0 0] 70 (0, 0))
  sb : W.heap[w0.heap.size + 1 + 1]? = some (.cells #[.int .i64 s.unit, .int .i64 s.parent, .int .i64 s.level, .string s.mark, .string s.title, vf] 65 (0, 0))
  below : Below w0.heap.size w0 W
theorem SecAr.call {w W W' : World} {v1 v2 v3 vf v : Value} {s : Sheet} {n : ByteArray} {go : Nat} {l : List Node} (h : SecAr w v1 v2 v3 vf s n go v l W) (hb : Below W.heap.size W W') : SecAr w v1 v2 v3 vf s n go v l W' :=
  ⟨(hb.block _ (heap_lt h.blk)).trans h.blk, h.row.below nodS hb, h.ne, h.lo, (hb.block _ (heap_lt h.cb)).trans h.cb, (hb.block _ (heap_lt h.rb)).trans h.rb, (hb.block _ (heap_lt h.sb)).trans h.sb, h.below.trans (hb.mono h.below.size)⟩
theorem SecAr.app {w W w6 : World} {v1 v2 v3 vf v v' : Value} {s : Sheet} {n : ByteArray} {go : Nat} {l : List Node} (h : SecAr w v1 v2 v3 vf s n go v l W) {x : Node} (hown : OwnRep 3 (flat Node.enc) 61 (w.heap.size + 3) w6 (l ++ [x]) v')
    (hg : W.grownBy w6 v.ownBlock) (hat : v'.ownBlock = v.ownBlock ∨ v'.ownBlock = some W.heap.size) : SecAr w v1 v2 v3 vf s n go v' (l ++ [x]) (w6.setCell ⟨go, 2, none⟩ v') := by
  have hlt := h.row.own_lt
  have hgl := heap_lt h.blk
  have hlo := h.lo
  have h6 : w6.heap[go]? = some (.cells #[.int .i64 s.unit, .string n, v] 70 (0, 0)) := (hg.block go hgl (fun e => h.ne e.symm)).trans h.blk
  have hne : v'.ownBlock ≠ some go := by
    rcases hat with e | e
    · rw [e]; exact h.ne
    · rw [e]; intro e2; injection e2 with e2; omega
  refine ⟨by simp [World.setCell, Array.getElem?_modify, h6], hown.keep (fun b hb => Below.heap_setCell _ _ _ _ (by rintro rfl; exact hne hb)), hne, hlo, ?_, ?_, ?_, (h.below.grown hg h.below.size (fun k hk => by have := (hlt k hk).1; omega)).setCell (by show w.heap.size ≤ go; omega) _⟩
  · rw [Below.heap_setCell _ _ _ _ (by show w.heap.size ≠ go; omega)]
    exact (hg.block _ (heap_lt h.cb) (fun e => by have := (hlt _ e.symm).1; omega)).trans h.cb
  · rw [Below.heap_setCell _ _ _ _ (by show w.heap.size + 1 ≠ go; omega)]
    exact (hg.block _ (heap_lt h.rb) (fun e => by have := (hlt _ e.symm).1; omega)).trans h.rb
  · rw [Below.heap_setCell _ _ _ _ (by show w.heap.size + 1 + 1 ≠ go; omega)]
    exact (hg.block _ (heap_lt h.sb) (fun e => by have := (hlt _ e.symm).1; omega)).trans h.sb
theorem SecAr.cells {w W : World} {v1 v2 v3 vf v : Value} {s : Sheet} {n : ByteArray} {go : Nat} {l : List Node} (h : SecAr w v1 v2 v3 vf s n go v l W) : W.cell? ⟨go, 2, none⟩ = some v ∧ W.frozen? ⟨go, 2, none⟩ = false ∧ go < W.heap.size :=
  ⟨by rw [Lib.cell_of_heap h.blk]; rfl, Lib.frozen_of_heap h.blk 2, heap_lt h.blk⟩
theorem SecAr.old {w W w6 : World} {v1 v2 v3 vf v : Value} {s : Sheet} {n : ByteArray} {go : Nat} {l : List Node} (h : SecAr w v1 v2 v3 vf s n go v l W) (hg : W.grownBy w6 v.ownBlock) : w6.cell? ⟨go, 2, none⟩ = some v :=
  (cell_grown hg h.cells.2.2 (fun e => h.ne e.symm)).trans h.cells.1
theorem SecAr.base_ {w W : World} {v1 v2 v3 vf v : Value} {s : Sheet} {n : ByteArray} {go : Nat} {l : List Node} (h : SecAr w v1 v2 v3 vf s n go v l W) : w.heap.size + 3 ≤ W.heap.size := Nat.le_trans h.lo (Nat.le_of_lt (heap_lt h.blk))
theorem SecAr.frz {w W w6 : World} {v1 v2 v3 vf v : Value} {s : Sheet} {n : ByteArray} {go : Nat} {l : List Node} (h : SecAr w v1 v2 v3 vf s n go v l W) (hg : W.grownBy w6 v.ownBlock) : w6.frozen? ⟨go, 2, none⟩ = false :=
  Lib.frozen_of_heap ((hg.block go (heap_lt h.blk) (fun e => h.ne e.symm)).trans h.blk) 2
theorem index_nat (n : ByteArray) (k : Nat) (h : k < n.size) : n.data.toList.drop k = n.data.toList.getD k 0 :: n.data.toList.drop (k + 1) := by
  have h' : k < n.data.toList.length := by rw [Array.length_toList]; exact h
  rw [List.drop_eq_getElem_cons h', List.getD_eq_getElem?_getD, List.getElem?_eq_getElem h']
  rfl
theorem rpoints_c (n : ByteArray) (w : World) (hn : n.size ≤ 1000) : Calls Tryz.prog 70 #[.string n] w fun e w' => e = .returned (.int .i64 (pntN n)) ∧ w' = w := by
  have HE := Lib.hid (show pntN n = ((0 : Nat) : Int) + (Lib.countByte (n.data.toList.drop 0) 46 : Nat) by unfold pntN; simp)
  go_enter Tryz.func70, Tryz.ntmps70
  go_wp2
  go_loop [3, 4] (fun t i => ∃ k m : Nat, k ≤ n.size ∧ i = .int .i64 k ∧ t = .int .i64 m ∧ m ≤ k ∧ Hid (pntN n = (m : Int) + (Lib.countByte (n.data.toList.drop k) 46 : Nat))) (fun _ i => n.size - (intOf i).toNat)
  case atStart => exact ⟨0, 0, Nat.zero_le _, rfl, rfl, Nat.le_refl _, HE⟩
  case round =>
    obtain ⟨k, m, hk, rfl, rfl, hm, hh⟩ := hrel
    by_cases hlt : k < n.size
    · have hki : (k : Int) < (n.size : Int) := by omega
      have hd := index_nat n k hlt
      have hg : n.data.toList.getD k 0 = n[k] := by
        rw [List.getD_eq_getElem?_getD, List.getElem?_eq_getElem (by rw [Array.length_toList]; exact hlt)]
        rfl
      rw [hg] at hd
      have H1 := Lib.hid (fun (e : n[k] = 46) => (by
        have := hh.out
        rw [hd] at this
        rw [this, e]
        unfold Lib.countByte
        rw [List.count_cons_self]
        omega : pntN n = ((m + 1 : Nat) : Int) + (Lib.countByte (n.data.toList.drop (k + 1)) 46 : Nat)))
      have H2 := Lib.hid (fun (e : n[k] ≠ 46) => (by
        have := hh.out
        rw [hd] at this
        rw [this]
        unfold Lib.countByte
        rw [List.count_cons_of_ne e] : pntN n = (m : Int) + (Lib.countByte (n.data.toList.drop (k + 1)) 46 : Nat)))
      clear hd hg hh
      go_wp2
      · rename_i e
        have e' : n[k] = 46 := by
          apply UInt8.toNat_inj.1
          have : ((n[k].toNat : Nat) : Int) = 46 := by simpa using e
          show n[k].toNat = 46
          omega
        go_round
        case rel => exact ⟨k + 1, m + 1, by omega, by go_num, by go_num, by omega, Lib.hid (H1.out e')⟩
        case measure => simp [intOf]; omega
      · rename_i e
        have e' : n[k] ≠ 46 := fun h => by rw [h] at e; simp at e
        go_round
        case rel => exact ⟨k + 1, m, by omega, by go_num, rfl, by omega, Lib.hid (H2.out e')⟩
        case measure => simp [intOf]; omega
    · have HF := Lib.hid (show pntN n = m by rw [hh.out, List.drop_of_length_le (by rw [Array.length_toList]; show n.size ≤ k; omega)]; simp [Lib.countByte])
      clear hh
      go_wp2
      go_ret
      exact ⟨ret_int HF.out.symm, rfl⟩
theorem rtag_c (l : Int) (w : World) (h1 : 1 ≤ l) (h4 : l ≤ 4) : Calls Tryz.prog 71 #[.int .i64 l] w fun e w' => e = .returned (.string (tagF l)) ∧ Below w.heap.size w w' := by
  have hb : Below w.heap.size w (w.alloc (.cells #[.string ⟨#[102, 111, 110, 100, 115]⟩, .string ⟨#[115, 101, 114, 105, 101, 115]⟩, .string ⟨#[102, 105, 108, 101]⟩, .string ⟨#[105, 116, 101, 109]⟩] 9)) := (Below.refl _ _).alloc (Nat.le_refl _) _
  rcases (by omega : l = 1 ∨ l = 2 ∨ l = 3 ∨ l = 4) with rfl | rfl | rfl | rfl
  all_goals
    go_enter Tryz.func71, Tryz.ntmps71
    go_wp2
    go_ret
    exact ⟨rfl, hb⟩
theorem SecAr.start {w W2 : World} {v1 v2 v3 vf : Value} {s : Sheet} {n : ByteArray} {go gn : Nat} {x : Node} (hb : Below (w.heap.size + 3) (((w.alloc (catC v1 v2 v3)).alloc secZ).alloc (shtC s vf)) W2) (hg : W2.heap[go]? = some (secC s n (.slice (some ⟨gn, 0, none⟩) 1 1))) (hn : W2.heap[gn]? = some (nodC x)) (hgo : w.heap.size + 3 ≤ go) (hgn : w.heap.size + 3 ≤ gn) (hne : gn ≠ go) :
    SecAr w v1 v2 v3 vf s n go (.slice (some ⟨gn, 0, none⟩) 1 1) [x] W2 where
  blk := hg
  row := OwnRep.of_full (xs := [x]) nodS rfl (by unfold maxLen; omega) hgn (by rw [hn]; rfl)
  ne := fun e => hne (by injection e)
  lo := hgo
  cb := by
    rw [hb.block _ (by omega), Below.heap_alloc _ _ _ (by simp; omega), Below.heap_alloc _ _ _ (by simp)]
    exact heap_newL w _
  rb := by
    rw [hb.block _ (by omega), Below.heap_alloc _ _ _ (by simp)]
    have := heap_newL (w.alloc (catC v1 v2 v3)) secZ
    simpa only [World.size_alloc] using this
  sb := by
    rw [hb.block _ (by omega)]
    have := heap_newL ((w.alloc (catC v1 v2 v3)).alloc secZ) (shtC s vf)
    simpa only [World.size_alloc] using this
  below := ((((Below.refl _ _).alloc (Nat.le_refl _) _).alloc (by simp) _).alloc (by simp; omega) _).trans (hb.mono (by omega))
def rtextF (c : Cat) (lang : ByteArray) (f : Fact) : ByteArray := rnameF (prefF c.langs lang) c.labels f.el.toNat ++ ⟨#[58, 32]⟩ ++ ⟨(expF (fun u => citeF c.sheets u) f.text).toArray⟩
def rparN (c : Cat) (lang n : ByteArray) (f : Fact) : Node := ⟨pntN n + 1, parT, rtextF c lang f⟩
/-- the reference's section -/
def rsecF (c : Cat) (lang : ByteArray) (s : Sheet) (n : ByteArray) : Sect := ⟨s.unit, n, headN s n :: markN s n ++ (rchooseF s.facts (prefF c.langs lang)).map (rparN c lang n)⟩
theorem rsec_eq {c : Cat} {lang n : ByteArray} {s : Sheet} (h0 : catE c = 0) (hl : hasS c.langs lang = true) (hs : s ∈ c.sheets) : rsecF c lang s n = secF c (prefP c.langs lang) s n := by
  obtain ⟨hz1, -, -, hz4⟩ := catE_zero h0
  obtain ⟨-, -, l3, -⟩ := langE_zero hz1
  have e1 := pref_eq l3 (hasS_iff.1 hl)
  have e2 : (rchooseF s.facts (prefF c.langs lang)).map (rparN c lang n) = (rchooseF s.facts (prefF c.langs lang)).map (parN c (prefF c.langs lang) n) := List.map_congr_left fun f _ => by
    unfold rparN parN rtextF textF
    rw [name_eq h0]
  unfold rsecF secF
  rw [e1, choose_eq (hz4 s hs).2.2, e2]
theorem shW3_at {w W : World} {v1 v2 v3 vf : Value} {x : Sheet} (hW : Below (w.heap.size + 3) (((w.alloc (catC v1 v2 v3)).alloc secZ).alloc (shtC x vf)) W) : W.cell? ⟨w.heap.size, 0, none⟩ = some v1 ∧ W.cell? ⟨w.heap.size, 1, none⟩ = some v2 ∧ W.cell? ⟨w.heap.size, 2, none⟩ = some v3 ∧ W.cell? ⟨w.heap.size + 1 + 1, 0, none⟩ = some (.int .i64 x.unit) ∧ W.cell? ⟨w.heap.size + 1 + 1, 2, none⟩ = some (.int .i64 x.level) ∧ W.cell? ⟨w.heap.size + 1 + 1, 4, none⟩ = some (.string x.title) ∧ w.heap.size + 1 + 1 < W.heap.size ∧ w.heap.size < W.heap.size := by
  have k0 : (((w.alloc (catC v1 v2 v3)).alloc secZ).alloc (shtC x vf)).heap[w.heap.size]? = some (catC v1 v2 v3) := by
    rw [Below.heap_alloc _ _ _ (by simp; omega), Below.heap_alloc _ _ _ (by simp)]
    exact heap_newL w _
  have k1 : (((w.alloc (catC v1 v2 v3)).alloc secZ).alloc (shtC x vf)).heap[w.heap.size + 1 + 1]? = some (shtC x vf) := by
    have := heap_newL ((w.alloc (catC v1 v2 v3)).alloc secZ) (shtC x vf)
    simpa only [World.size_alloc] using this
  have q0 := (hW.block _ (by omega)).trans k0
  have q1 := (hW.block _ (by omega)).trans k1
  exact ⟨by rw [Lib.cell_of_heap q0]; rfl, by rw [Lib.cell_of_heap q0]; rfl, by rw [Lib.cell_of_heap q0]; rfl, by rw [Lib.cell_of_heap q1]; rfl, by rw [Lib.cell_of_heap q1]; rfl, by rw [Lib.cell_of_heap q1]; rfl, heap_lt q1, heap_lt q0⟩
theorem ent3_le {w W : World} {o1 o2 o3 : Obj} (hW : Below (w.heap.size + 3) (((w.alloc o1).alloc o2).alloc o3) W) : w.heap.size + 3 ≤ W.heap.size := by
  have := hW.size
  simp at this
  omega
section
variable {w W : World} {v1 v2 v3 vf : Value} {s : Sheet} {n : ByteArray} {x : Node}
theorem SecAr.start1 (hb : Below (w.heap.size + 3) (((w.alloc (catC v1 v2 v3)).alloc secZ).alloc (shtC s vf)) W) :
    SecAr w v1 v2 v3 vf s n (W.heap.size + 1) (.slice (some ⟨W.heap.size, 0, none⟩) 1 1) [x] ((W.alloc (nodC x)).alloc (secC s n (.slice (some ⟨W.heap.size, 0, none⟩) 1 1))) := by
  have hl := ent3_le hb
  refine SecAr.start (x := x) ((hb.alloc hl _).alloc (by simp; omega) _) ?_ ?_ (by omega) hl (by omega)
  · have := heap_newL (W.alloc (nodC x)) (secC s n (.slice (some ⟨W.heap.size, 0, none⟩) 1 1))
    simpa only [World.size_alloc] using this
  · rw [Below.heap_alloc _ _ _ (by simp)]
    exact heap_newL W _
theorem SecAr.start2 (hb : Below (w.heap.size + 3) (((w.alloc (catC v1 v2 v3)).alloc secZ).alloc (shtC s vf)) W) :
    SecAr w v1 v2 v3 vf s n W.heap.size (.slice (some ⟨W.heap.size + 1, 0, none⟩) 1 1) [x] ((W.alloc (secC s n (.slice (some ⟨W.heap.size + 1, 0, none⟩) 1 1))).alloc (nodC x)) := by
  have hl := ent3_le hb
  refine SecAr.start (x := x) ((hb.alloc hl _).alloc (by simp; omega) _) ?_ ?_ hl (by omega) (by omega)
  · rw [Below.heap_alloc _ _ _ (by simp)]
    exact heap_newL W _
  · have := heap_newL (W.alloc (secC s n (.slice (some ⟨W.heap.size + 1, 0, none⟩) 1 1))) (nodC x)
    simpa only [World.size_alloc] using this
theorem SecAr.start3 {g : Nat} (hb : Below (w.heap.size + 3) (((w.alloc (catC v1 v2 v3)).alloc secZ).alloc (shtC s vf)) W) (hg : w.heap.size + 3 ≤ g) (hy : W.heap[g]? = some secZ) :
    SecAr w v1 v2 v3 vf s n g (.slice (some ⟨W.heap.size, 0, none⟩) 1 1) [x] ((((W.setCell ⟨g, 0, none⟩ (.int .i64 s.unit)).setCell ⟨g, 1, none⟩ (.string n)).setCell ⟨g, 2, none⟩ (.slice (some ⟨W.heap.size, 0, none⟩) 1 1)).alloc (nodC x)) := by
  have hl := ent3_le hb
  have hgl := heap_lt hy
  have hb3 := ((hb.setCell (show w.heap.size + 3 ≤ (⟨g, 0, none⟩ : Addr).block from hg) (.int .i64 s.unit)).setCell (show w.heap.size + 3 ≤ (⟨g, 1, none⟩ : Addr).block from hg) (.string n)).setCell (show w.heap.size + 3 ≤ (⟨g, 2, none⟩ : Addr).block from hg) (.slice (some ⟨W.heap.size, 0, none⟩) 1 1)
  have hsz : (((W.setCell ⟨g, 0, none⟩ (.int .i64 s.unit)).setCell ⟨g, 1, none⟩ (.string n)).setCell ⟨g, 2, none⟩ (.slice (some ⟨W.heap.size, 0, none⟩) 1 1)).heap.size = W.heap.size := by simp [World.setCell]
  refine SecAr.start (x := x) (hb3.alloc (ent3_le hb3) _) ?_ ?_ hg (by omega) (by omega)
  · rw [Below.heap_alloc _ _ _ (by rw [hsz]; omega)]
    simp [World.setCell, Array.getElem?_modify, hy]
  · have := heap_newL (((W.setCell ⟨g, 0, none⟩ (.int .i64 s.unit)).setCell ⟨g, 1, none⟩ (.string n)).setCell ⟨g, 2, none⟩ (.slice (some ⟨W.heap.size, 0, none⟩) 1 1)) (nodC x)
    rw [hsz] at this
    exact this
end
set_option maxRecDepth 100000 in
set_option maxHeartbeats 8000000 in
theorem rsection_c (c : Cat) (s : Sheet) (root : Int) (i : Nat) (lang : ByteArray) (v1 v2 v3 : Value) (w : World) (B : Nat) (hB : B ≤ w.heap.size) (h : CatRep w B c v1 v2 v3) (h0 : catE c = 0) (hs : c.sheets[i]? = some s) (hr : root ∈ chainF c.sheets i) (h14 : c.sheets.length ≤ 14) (hl2 : c.langs.length ≤ 1000) :
    Calls Tryz.prog 41 #[.agg #[v1, v2, v3], .int .i64 root, .int .i64 i, .string lang] w fun e w' => ∃ vN, e = .returned (.agg #[.int .i64 s.unit, .string (rnumF c.sheets root i), vN]) ∧ OwnRep 3 (flat Node.enc) 61 w.heap.size w' (rsecF c lang s (rnumF c.sheets root i)).nodes vN ∧ Below w.heap.size w w' := by
  have T := Cat.tree h0
  have hn := T.size_le h14 (i + 1) i (Nat.lt_succ_self _) s hs hr
  have hil := lt_of_at hs
  have HRN := Lib.hid (fun (W : World) (hW : Below w.heap.size w W) => rnumber_c c T h14 root (i + 1) i (Nat.lt_succ_self _) s hs hr v1 v2 v3 W B (Nat.le_trans hB hW.size) (h.below (hW.mono hB)))
  generalize rnumF c.sheets root i = n at *
  have HPT := Lib.hid (fun (W : World) => rpoints_c n W (by omega))
  obtain ⟨⟨-, -, hl1, hl4⟩, ⟨hk64, -, ht64⟩, hfe⟩ := (catE_zero h0).2.2.2 s (List.mem_of_getElem? hs)
  have HTG := Lib.hid (fun (W : World) => rtag_c s.level W hl1 hl4)
  have HPF := Lib.hid (fun (W : World) (hW : Below w.heap.size w W) => rprefer_c c lang v1 v2 v3 W B (Nat.le_trans hB hW.size) (h.langs.below strS (hW.mono hB)) hl2)
  have hrep := h
  obtain ⟨A1, ca1, rfl, -⟩ := id h.langs
  obtain ⟨A2, ca2, rfl, -⟩ := id h.labels
  obtain ⟨A3, ca3, rfl, hc1, hc2, _⟩ := id h.sheets
  have HXS := Lib.hid (fun (W : World) (hW : Below w.heap.size w W) => Sheets.at_ (h.sheets.below shtS (hW.mono hB)) hs)
  obtain ⟨b, off, vf, e9, hbB, g0, g1, g2, g3, g4, g5, hfr⟩ := HXS.out w (Below.refl _ _)
  subst e9
  obtain ⟨Af, cf, rfl, -⟩ := id hfr
  have hbw : b < w.heap.size := by have : b < B := hbB; omega
  have hki : (i : Int) < (c.sheets.length : Int) := by omega
  have hq1 : ¬ 9223372036854775807 < n.size + 1 := by omega
  have hq2 : ¬ 9223372036854775807 < n.size + 1 + s.title.size := by omega
  have hq3 : (n ++ ⟨#[32]⟩).size = n.size + 1 := by rw [ByteArray.size_append]; rfl
  have b3 : Below w.heap.size w (((w.alloc (catC (.slice A1 c.langs.length ca1) (.slice A2 c.labels.length ca2) (.slice (some ⟨b, off, none⟩) c.sheets.length ca3))).alloc secZ).alloc (shtC s (.slice Af s.facts.length cf))) := ((((Below.refl _ _).alloc (Nat.le_refl _) _).alloc (by simp) _).alloc (by simp; omega) _)
  have KC := Lib.hid (fun (W : World) (hW : Below (w.heap.size + 3) (((w.alloc (catC (.slice A1 c.langs.length ca1) (.slice A2 c.labels.length ca2) (.slice (some ⟨b, off, none⟩) c.sheets.length ca3))).alloc secZ).alloc (shtC s (.slice Af s.facts.length cf))) W) => shW3_at hW)
  clear h
  go_enter Tryz.func41, Tryz.ntmps41
  go_wp2_with fail
  refine (HRN.out _ b3).mono ?_
  rintro e w1 ⟨rfl, hb1⟩
  have hbX := bnd_call (Below.refl (w.heap.size + 3) _) (by simp) hb1
  clear g0 g1 g2 g3 g4 g5 hb1
  go_wp2_with fail
  refine (HPT.out _).mono ?_
  rintro e w2 ⟨rfl, h12⟩
  subst h12
  have hs1 := hbX.size
  simp at hs1
  have hbD := hbX.drew
  have hbZ := (hbX.alloc (by omega) secZ).drew
  have TA := Lib.hid hbX
  obtain ⟨-, -, -, p0, p2, p4, pl, -⟩ := KC.out _ hbX
  have KEEP := Lib.hid (fun (W : World) (hW : Below (w.heap.size + 3) (((w.alloc (catC (.slice A1 c.langs.length ca1) (.slice A2 c.labels.length ca2) (.slice (some ⟨b, off, none⟩) c.sheets.length ca3))).alloc secZ).alloc (shtC s (.slice Af s.facts.length cf))) W) => (⟨(KC.out _ hW).2.2.2.1, (KC.out _ hW).2.2.2.2.1, (KC.out _ hW).2.2.2.2.2.1⟩ : W.cell? ⟨w.heap.size + 1 + 1, 0, none⟩ = some (.int .i64 s.unit) ∧ W.cell? ⟨w.heap.size + 1 + 1, 2, none⟩ = some (.int .i64 s.level) ∧ W.cell? ⟨w.heap.size + 1 + 1, 4, none⟩ = some (.string s.title)))
  go_wp2
  go_cut [12] (fun s12 W => ∃ go v, s12 = .pointer (some ⟨go, 0, none⟩) ∧ SecAr w (.slice A1 c.langs.length ca1) (.slice A2 c.labels.length ca2) (.slice (some ⟨b, off, none⟩) c.sheets.length ca3) (.slice Af s.facts.length cf) s n go v [headN s n] W)
  case first =>
    go_region_held3 (fun W => W.cell? ⟨w.heap.size + 1 + 1, 0, none⟩ = some (.int .i64 s.unit) ∧ W.cell? ⟨w.heap.size + 1 + 1, 2, none⟩ = some (.int .i64 s.level) ∧ W.cell? ⟨w.heap.size + 1 + 1, 4, none⟩ = some (.string s.title)) (first | with_reducible exact KEEP.out _ hbD | with_reducible exact KEEP.out _ hbZ | with_reducible exact KEEP.out _ (hbD.alloc (ent3_le hbD) _) | with_reducible exact KEEP.out _ ((hbD.alloc (ent3_le hbD) _).alloc (ent3_le (hbD.alloc (ent3_le hbD) _)) _) | with_reducible exact KEEP.out _ ((hbD3 _ _ _).alloc (ent3_le (hbD3 _ _ _)) _)) (first
      | (go_at_call 71; (with_reducible refine (HTG.out w2.drew).mono ?_); rintro e wT ⟨rfl, hb2⟩; have hbD := hbD.trans (hb2.mono hs1))
      | (go_at_call 71; (with_reducible refine (HTG.out (w2.alloc secZ).drew).mono ?_); rintro e wT ⟨rfl, hb2⟩; have hbD := hbZ.trans (hb2.mono (Nat.le_trans hs1 (by simp))); have hyy : wT.heap[w2.heap.size]? = some secZ := (hb2.block _ (by show _ < (World.alloc _ _).heap.size; simp)).trans (heap_newL w2 secZ); have e0 : wT.cell? ⟨w2.heap.size, 0, none⟩ = some (.int .i64 0) := (by rw [Lib.cell_of_heap hyy]; rfl); have e1 : wT.cell? ⟨w2.heap.size, 1, none⟩ = some (.string ⟨#[]⟩) := (by rw [Lib.cell_of_heap hyy]; rfl); have e2 : wT.cell? ⟨w2.heap.size, 2, none⟩ = some (.slice none 0 0) := (by rw [Lib.cell_of_heap hyy]; rfl); have f0 := Lib.frozen_of_heap hyy 0; have f1 := Lib.frozen_of_heap hyy 1; have f2 := Lib.frozen_of_heap hyy 2; have hyl := heap_lt hyy; have hbD3 := fun a b d => (((hbD.setCell (show w.heap.size + 3 ≤ (⟨w2.heap.size, 0, none⟩ : Addr).block from hs1) a).setCell (show w.heap.size + 3 ≤ (⟨w2.heap.size, 1, none⟩ : Addr).block from hs1) b).setCell (show w.heap.size + 3 ≤ (⟨w2.heap.size, 2, none⟩ : Addr).block from hs1) d)))
    all_goals (go_wp2_with fail; go_meet)
    all_goals first
      | exact ⟨_, _, rfl, SecAr.start1 hbD (x := headN s n)⟩
      | exact ⟨_, _, rfl, SecAr.start2 hbD (x := headN s n)⟩
      | exact ⟨_, _, rfl, SecAr.start3 hbD hs1 hyy (x := headN s n)⟩
  case rest =>
    obtain ⟨go, v, rfl, hsec⟩ := hcut
    clear hbX hs1 hbD hbZ TA p0 p2 p4 pl KEEP KC HRN HPT HTG b3
    have y3 : wc.cell? ⟨w.heap.size + 1 + 1, 3, none⟩ = some (.string s.mark) := by rw [Lib.cell_of_heap hsec.sb]; rfl
    have HSEC := Lib.hid hsec
    clear hsec
    go_upto_if 43 with fail
    go_cut [] (fun W => ∃ v, SecAr w (.slice A1 c.langs.length ca1) (.slice A2 c.labels.length ca2) (.slice (some ⟨b, off, none⟩) c.sheets.length ca3) (.slice Af s.facts.length cf) s n go v (headN s n :: markN s n) W)
    case first =>
      by_cases hm : s.mark = ⟨#[]⟩
      · have hm1 : s.mark.toList.isEmpty = true := by rw [str_empty, hm]; rfl
        have HE := Lib.hid (show [headN s n] = headN s n :: markN s n by unfold markN; rw [if_pos hm])
        clear hm
        rw [hm1]
        go_wp2_with fail
        go_meet
        exact ⟨_, by rw [← HE.out]; exact HSEC.out⟩
      · have hm1 : s.mark.toList.isEmpty = false := by
          rw [str_empty, decide_eq_false_iff_not]
          intro e
          exact hm (ByteArray.ext (Array.eq_empty_of_size_eq_zero e))
        have HE := Lib.hid (show [headN s n] ++ [⟨pntN n + 1, markT, s.mark⟩] = headN s n :: markN s n by unfold markN; rw [if_neg hm]; rfl)
        clear hm
        rw [hm1]
        have hsec := HSEC.out
        obtain ⟨g, cap, rfl, hgb, hgl, hcp1, hcp2⟩ := own_ptr hsec.row (n := 1) rfl (by omega)
        obtain ⟨c2, f2, gl⟩ := hsec.cells
        have sl := heap_lt hsec.sb
        obtain ⟨hp0, hp1⟩ := pntN_le n
        have hw1 : IntKind.i64.wrap (pntN n + 1) = pntN n + 1 := IntWalk.i64_in _ (by omega)
        have bx := (Below.refl wc.heap.size wc).alloc (Nat.le_refl _) (nodC ⟨pntN n + 1, markT, s.mark⟩)
        have hsx := hsec.call bx
        have hlo := hsec.row.own_lt
        clear hsec
        go_wp2_with (at_builtin; refine stop_intro ?_)
        refine stop_elim ?_
        have sF : ∀ b, (False ∨ b = wc.heap.size) → b < (wc.alloc (.cells (Node.enc ⟨pntN n + 1, markT, s.mark⟩).toArray 61)).heap.size ∧ (.slice (some ⟨g, 0, none⟩) 1 cap : Value).ownBlock ≠ some b := fun b hb => by
          rcases hb with hb | rfl
          · exact hb.elim
          · exact ⟨by simp, fun e => by have := (hlo _ e).2; omega⟩
        refine wpList_append_rep (xs := [headN s n]) rfl nodS nodE_ (w.heap.size + 3) (.tmp 45) (.tmp 51) rfl rfl hsx.row rfl (ys := [⟨pntN n + 1, markT, s.mark⟩]) (SlRep.one_new nodS (w := wc) (F := fun _ => False) (x := ⟨pntN n + 1, markT, s.mark⟩) (cs := Node.enc ⟨pntN n + 1, markT, s.mark⟩) rfl rfl (fun b hb => hb.elim)) sF (by simp) (by decide) (by simp; omega) ?_
        intro v6 w6 hown6 hg6' hat6'
        have hg6 : (wc.alloc (nodC ⟨pntN n + 1, markT, s.mark⟩)).grownBy w6 (.slice (some ⟨g, 0, none⟩) 1 cap : Value).ownBlock := hg6'
        have hat6 : v6.ownBlock = (.slice (some ⟨g, 0, none⟩) 1 cap : Value).ownBlock ∨ v6.ownBlock = some (wc.alloc (nodC ⟨pntN n + 1, markT, s.mark⟩)).heap.size := hat6'
        clear hg6' hat6'
        have hsec6 := hsx.app hown6 hg6 hat6
        have hgc := hg6.size
        obtain ⟨A6, c6, rfl, -⟩ := id (hown6.toSl nodS)
        have d2 : w6.cell? ⟨go, 2, none⟩ = some (.slice (some ⟨g, 0, none⟩) 1 cap) := (cell_grown hg6 (by simp; omega) (fun e => hsx.ne e.symm)).trans hsx.cells.1
        have d3 : w6.frozen? ⟨go, 2, none⟩ = false := Lib.frozen_of_heap ((hg6.block go (by simp; omega) (fun e => hsx.ne e.symm)).trans hsx.blk) 2
        clear c2 f2 hsx bx y3 sF hlo
        go_wp2_with fail
        go_meet
        exact ⟨_, by rw [← HE.out]; exact hsec6⟩
    case rest =>
      obtain ⟨v5, hsec5⟩ := hcut
      clear HSEC y3
      have HSEC := Lib.hid hsec5
      have KCELL := Lib.hid (fun (W : World) (hW : Below wc.heap.size wc W) => (by
        have hc := HSEC.out.call hW
        exact ⟨by rw [Lib.cell_of_heap hc.cb]; rfl, by rw [Lib.cell_of_heap hc.cb]; rfl, by rw [Lib.cell_of_heap hc.cb]; rfl, by rw [Lib.cell_of_heap hc.sb]; rfl⟩ : W.cell? ⟨w.heap.size, 0, none⟩ = some (.slice A1 c.langs.length ca1) ∧ W.cell? ⟨w.heap.size, 1, none⟩ = some (.slice A2 c.labels.length ca2) ∧ W.cell? ⟨w.heap.size, 2, none⟩ = some (.slice (some ⟨b, off, none⟩) c.sheets.length ca3) ∧ W.cell? ⟨w.heap.size + 1 + 1, 5, none⟩ = some (.slice Af s.facts.length cf)))
      clear hsec5
      have BW := Lib.hid HSEC.out.below
      have HCH := Lib.hid (fun (W : World) (vo : Value) (hW : Below w.heap.size w W) (ho : SlRep 1 (flat strEnc) W (fun b => b < W.heap.size) (prefF c.langs lang) vo) => rchoose_c s.facts (prefF c.langs lang) (.slice Af s.facts.length cf) vo W W.heap.size (Nat.le_refl _) ((hfr.below fctS (hW.mono hB)).mono fctS (Nat.le_trans hB hW.size)) ho (by have := fctE_len hfe; omega))
      have hbK : Below wc.heap.size wc wc.drew := (Below.refl _ _).drew
      go_wp2
      go_region_held3 (fun W => W.cell? ⟨w.heap.size, 0, none⟩ = some (.slice A1 c.langs.length ca1) ∧ W.cell? ⟨w.heap.size, 1, none⟩ = some (.slice A2 c.labels.length ca2) ∧ W.cell? ⟨w.heap.size, 2, none⟩ = some (.slice (some ⟨b, off, none⟩) c.sheets.length ca3) ∧ W.cell? ⟨w.heap.size + 1 + 1, 5, none⟩ = some (.slice Af s.facts.length cf)) (with_reducible exact KCELL.out _ hbK) (first
        | (go_at_call 51; (with_reducible refine (HPF.out _ (BW.out.trans (hbK.mono BW.out.size))).mono ?_); rintro e wP ⟨vo, rfl, hownP, hbP⟩; have hbK := hbK.trans (hbP.mono hbK.size); have hsP := hownP.toSl strS)
        | (go_at_call 55; (with_reducible refine (HCH.out _ _ (BW.out.trans (hbK.mono BW.out.size)) hsP).mono ?_); rintro e wQ ⟨vq, rfl, hown1, hbQ⟩; have HPW := Lib.hid hbK.size; have hbK := hbK.trans (hbQ.mono hbK.size)))
      have hsec := HSEC.out.call hbK
      have HSG := Lib.hid (heap_lt HSEC.out.blk)
      have HSO := Lib.hid (fun b hb => (HSEC.out.row.own_lt b hb).2)
      have hcs := hown1.toSl fctS
      clear HCH HSEC KCELL hbP hsP hownP hbQ HPF
      obtain ⟨Aq, cq, rfl, hq1', hq2', -⟩ := id hcs
      obtain ⟨-, -, l3, -⟩ := langE_zero (catE_zero h0).1
      have HQF := Lib.hid (fun (f : Fact) (hf : f ∈ rchooseF s.facts (prefF c.langs lang)) => by
        rw [← choose_eq hfe] at hf
        exact fctE_mem hfe (choose_mem hf))
      have hq32 : (rchooseF s.facts (prefF c.langs lang)).length ≤ 32 := by
        rw [← choose_eq hfe]
        exact Nat.le_trans (by have := chooseG_len (prefF c.langs lang) s.facts []; rw [List.length_nil, Nat.zero_add] at this; exact this) (fctE_len hfe)
      have HQS := Lib.hid (show (rsecF c lang s n).nodes = headN s n :: markN s n ++ (rchooseF s.facts (prefF c.langs lang)).map (rparN c lang n) from rfl)
      generalize rchooseF s.facts (prefF c.langs lang) = qs at *
      have HR := Lib.hid (show headN s n :: markN s n = headN s n :: markN s n ++ (qs.take 0).map (rparN c lang n) by simp)
      have HQ0 := Lib.hid ((hown1.toFlat fctS).monoF fctS (fun b hb => hown1.own_lt b hb))
      have hgo : go < wc.heap.size := by have := HSG.out; exact this
      go_wp2
      go_loopw [14] (fun v14 wr => ∃ (k : Nat) (v' : Value), k ≤ qs.length ∧ v14 = .int .i64 k ∧ SecAr w (.slice A1 c.langs.length ca1) (.slice A2 c.labels.length ca2) (.slice (some ⟨b, off, none⟩) c.sheets.length ca3) (.slice Af s.facts.length cf) s n go v' (headN s n :: markN s n ++ (qs.take k).map (rparN c lang n)) wr ∧ SlRep 3 (flat Fact.enc) wr (fun b => wP.heap.size ≤ b ∧ b < wQ.heap.size) qs (.slice Aq qs.length cq) ∧ wQ.heap.size ≤ wr.heap.size ∧ (∀ b, v'.ownBlock = some b → b < wP.heap.size ∨ wQ.heap.size ≤ b)) (fun v14 _ => qs.length - (intOf v14).toNat)
      case atStart => exact ⟨0, v5, Nat.zero_le _, rfl, by rw [← HR.out]; exact hsec, HQ0.out, Nat.le_refl _, fun b hb => .inl (Nat.lt_of_lt_of_le (HSO.out b hb) HPW.out)⟩
      case round =>
        clear HR HQ0 hsec hown1 hcs
        obtain ⟨k, v', hk, rfl, hsec, hqr, hsz, hvo⟩ := hrel
        by_cases hlt : k < qs.length
        · obtain ⟨x, hx⟩ := get_at qs hlt
          have HX := Lib.hid (show (qs.take (k + 1)).map (rparN c lang n) = (qs.take k).map (rparN c lang n) ++ [rparN c lang n x] by rw [take_at hx, List.map_append]; rfl)
          obtain ⟨hx1, hx2, hx3⟩ := HQF.out x (List.mem_of_getElem? hx)
          obtain ⟨el, hel⟩ := Int.eq_ofNat_of_zero_le (show 0 ≤ x.el by omega)
          obtain ⟨b', off', rfl, hbB', g0, g1, g2⟩ := Facts.at_ hqr hx
          have hbw' : b' < wr.heap.size := by have := hbB'.2; omega
          have hwr := hsec.below
          have HSX := Lib.hid hsec
          have HNA := Lib.hid (fun (W : World) (hW : Below wr.heap.size wr W) => rname_c c el lang (.slice A1 c.langs.length ca1) (.slice A2 c.labels.length ca2) (.slice (some ⟨b, off, none⟩) c.sheets.length ca3) W B (Nat.le_trans hB (hwr.trans (hW.mono hwr.size)).size) (hrep.below ((hwr.trans (hW.mono hwr.size)).mono hB)) (by omega) hl2)
          have HEX := Lib.hid (fun (W : World) (hW : Below wr.heap.size wr W) => rexpand_c c x.text (.slice A1 c.langs.length ca1) (.slice A2 c.labels.length ca2) (.slice (some ⟨b, off, none⟩) c.sheets.length ca3) W B (Nat.le_trans hB (hwr.trans (hW.mono hwr.size)).size) (hrep.below ((hwr.trans (hW.mono hwr.size)).mono hB)) h0 hx3)
          rw [← hel] at HNA
          have hnz := nameF_size h0 (prefF c.langs lang) (e := el) (by omega)
          rw [name_eq h0] at hnz
          have htz : (⟨(expF (fun u => citeF c.sheets u) x.text).toArray⟩ : ByteArray).size ≤ 819200 := by
            show (expF (fun u => citeF c.sheets u) x.text).toArray.size ≤ 819200
            rw [List.size_toArray]
            have := expG_len (f := fun u => citeF c.sheets u) (t := x.text) (fun u => citeF_size h0 u) x.text.size 0
            unfold expF
            omega
          have HXT := Lib.hid (show rparN c lang n x = ⟨pntN n + 1, parT, rnameF (prefF c.langs lang) c.labels el ++ ⟨#[58, 32]⟩ ++ ⟨(expF (fun u => citeF c.sheets u) x.text).toArray⟩⟩ by unfold rparN rtextF; rw [hel]; rfl)
          generalize rnameF (prefF c.langs lang) c.labels el = nm at *
          generalize (⟨(expF (fun u => citeF c.sheets u) x.text).toArray⟩ : ByteArray) = tx at *
          have hq1 : ¬ 9223372036854775807 < nm.size + 2 := by omega
          have hq2 : ¬ 9223372036854775807 < nm.size + 2 + tx.size := by omega
          have hq3 : (nm ++ ⟨#[58, 32]⟩).size = nm.size + 2 := by rw [ByteArray.size_append]; rfl
          obtain ⟨hp0, hp1⟩ := pntN_le n
          have hw1 : IntKind.i64.wrap (pntN n + 1) = pntN n + 1 := IntWalk.i64_in _ (by omega)
          have hki : (k : Int) < (qs.length : Int) := by omega
          have hbX : Below wr.heap.size wr wr.drew := (Below.refl _ _).drew
          have HVL := Lib.hid (fun b hb => (hsec.row.own_lt b hb))
          have KEEP := Lib.hid (fun (W : World) (hW : Below wr.heap.size wr W) => (by
            have hc := HSX.out.call hW
            exact ⟨hc.cells.1, by rw [Lib.cell_of_heap hc.cb]; rfl, by rw [Lib.cell_of_heap hc.cb]; rfl, by rw [Lib.cell_of_heap hc.cb]; rfl, (hW.cell (p := ⟨b', off' + k * 3, none⟩) hbw').trans g0, (hW.cell (p := ⟨b', off' + k * 3 + 2, none⟩) hbw').trans g2⟩ : W.cell? ⟨go, 2, none⟩ = some v' ∧ W.cell? ⟨w.heap.size, 0, none⟩ = some (.slice A1 c.langs.length ca1) ∧ W.cell? ⟨w.heap.size, 1, none⟩ = some (.slice A2 c.labels.length ca2) ∧ W.cell? ⟨w.heap.size, 2, none⟩ = some (.slice (some ⟨b, off, none⟩) c.sheets.length ca3) ∧ W.cell? ⟨b', off' + k * 3, none⟩ = some (.int .i64 x.el) ∧ W.cell? ⟨b', off' + k * 3 + 2, none⟩ = some (.string x.text)))
          have kN : (headN s n :: markN s n ++ (qs.take k).map (rparN c lang n)).length + [(pN n nm tx : Node)].length ≤ 4294967296 := by
            have : (markN s n).length ≤ 1 := by unfold markN; split <;> simp
            simp
            omega
          obtain ⟨r0, r1, r2, r3, r4, r5⟩ := KEEP.out _ hbX
          have HKR := Lib.hid hqr
          have HVO := Lib.hid hvo
          have kQ : wQ.heap.size ≤ wr.heap.size := hsz
          obtain ⟨LL, hLL⟩ : ∃ LL, headN s n :: markN s n ++ (qs.take k).map (rparN c lang n) ++ [pN n nm tx] = LL := ⟨_, rfl⟩
          have HLL := Lib.hid hLL
          have KEEPS := Lib.hid (fun (W : World) (hW : Below wr.heap.size wr W) => (KEEP.out W hW).2)
          have KEEPG := Lib.hid (fun (W W6 : World) (hW : Below wr.heap.size wr W) (hg : W.grownBy W6 v'.ownBlock) => (by
            obtain ⟨q1, q2, q3, q4, q5⟩ := KEEPS.out W hW
            have hc := HSX.out.call hW
            have hlo := hc.row.own_lt
            have hcl := heap_lt hc.cb
            have hbl := Nat.lt_of_lt_of_le hbw' hW.size
            have hb1 := hbB'.1
            have hb2 := hbB'.2
            have hpw := HPW.out
            have m1 : some w.heap.size ≠ v'.ownBlock := fun e => by have := (hlo _ e.symm).1; omega
            have m2 : some b' ≠ v'.ownBlock := fun e => by rcases HVO.out _ e.symm with h | h <;> omega
            have t : W6.cell? ⟨w.heap.size, 0, none⟩ = some (.slice A1 c.langs.length ca1) ∧ W6.cell? ⟨w.heap.size, 1, none⟩ = some (.slice A2 c.labels.length ca2) ∧ W6.cell? ⟨w.heap.size, 2, none⟩ = some (.slice (some ⟨b, off, none⟩) c.sheets.length ca3) ∧ W6.cell? ⟨b', off' + k * 3, none⟩ = some (.int .i64 x.el) ∧ W6.cell? ⟨b', off' + k * 3 + 2, none⟩ = some (.string x.text) := ⟨(cell_grown hg hcl m1).trans q1, (cell_grown hg hcl m1).trans q2, (cell_grown hg hcl m1).trans q3, (cell_grown hg hbl m2).trans q4, (cell_grown hg hbl m2).trans q5⟩
            refine ⟨t, fun u => ?_⟩
            obtain ⟨t1, t2, t3, t4, t5⟩ := t
            have o1 : go ≠ w.heap.size := by have := hc.lo; omega
            have o2 : go ≠ b' := by omega
            exact ⟨(World.cell?_setCell_far _ _ _ _ o1).trans t1, (World.cell?_setCell_far _ _ _ _ o1).trans t2, (World.cell?_setCell_far _ _ _ _ o1).trans t3, (World.cell?_setCell_far _ _ _ _ o2).trans t4, (World.cell?_setCell_far _ _ _ _ o2).trans t5⟩ : (W6.cell? ⟨w.heap.size, 0, none⟩ = some (.slice A1 c.langs.length ca1) ∧ W6.cell? ⟨w.heap.size, 1, none⟩ = some (.slice A2 c.labels.length ca2) ∧ W6.cell? ⟨w.heap.size, 2, none⟩ = some (.slice (some ⟨b, off, none⟩) c.sheets.length ca3) ∧ W6.cell? ⟨b', off' + k * 3, none⟩ = some (.int .i64 x.el) ∧ W6.cell? ⟨b', off' + k * 3 + 2, none⟩ = some (.string x.text)) ∧ ∀ u : Value, (W6.setCell ⟨go, 2, none⟩ u).cell? ⟨w.heap.size, 0, none⟩ = some (.slice A1 c.langs.length ca1) ∧ (W6.setCell ⟨go, 2, none⟩ u).cell? ⟨w.heap.size, 1, none⟩ = some (.slice A2 c.labels.length ca2) ∧ (W6.setCell ⟨go, 2, none⟩ u).cell? ⟨w.heap.size, 2, none⟩ = some (.slice (some ⟨b, off, none⟩) c.sheets.length ca3) ∧ (W6.setCell ⟨go, 2, none⟩ u).cell? ⟨b', off' + k * 3, none⟩ = some (.int .i64 x.el) ∧ (W6.setCell ⟨go, 2, none⟩ u).cell? ⟨b', off' + k * 3 + 2, none⟩ = some (.string x.text)))
          clear hLL hsec hqr hvo hx hx3 hel g0 g1 g2
          go_wp2
          refine wp_region_held_drew (S := fun W => W.cell? ⟨w.heap.size, 0, none⟩ = some (.slice A1 c.langs.length ca1) ∧ W.cell? ⟨w.heap.size, 1, none⟩ = some (.slice A2 c.labels.length ca2) ∧ W.cell? ⟨w.heap.size, 2, none⟩ = some (.slice (some ⟨b, off, none⟩) c.sheets.length ca3) ∧ W.cell? ⟨b', off' + k * 3, none⟩ = some (.int .i64 x.el) ∧ W.cell? ⟨b', off' + k * 3 + 2, none⟩ = some (.string x.text)) (by kernel_rfl) (by with_reducible exact KEEPS.out _ hbX) (fun hHeld0 => ?_)
          refine wpAnyH_take (i := 0) (oi := { dst := some 66, op := Go.Op.fieldAddr 70 (Go.Operand.tmp 12) 2, type := 0, pos := "ref.go:425", after := #[], guard := none }) (v := ?_) rfl (by kernel_rfl) (by kernel_rfl) (by kernel_rfl) (fun _ _ _ h => h) (Or.inl ⟨by rfl, ?_⟩) hHeld0 ?_
          rotate_left
          · intro w hSw
            (try dsimp only at hSw)
            go_simp
            (try with_reducible rfl)
          (try simp only [Act.put, List.setIfInBounds_toArray, List.set_cons_zero, List.set_cons_succ])
          refine wpAnyH_take (i := 2) (oi := { dst := some 68, op := Go.Op.move (Go.Operand.tmp 11), type := 3, pos := "ref.go:425", after := #[], guard := none }) (v := ?_) rfl (by kernel_rfl) (by kernel_rfl) (by kernel_rfl) (fun _ _ _ h => h) (Or.inl ⟨by rfl, ?_⟩) hHeld0 ?_
          rotate_left
          · intro w hSw
            (try dsimp only at hSw)
            go_simp
            (try with_reducible rfl)
          (try simp only [Act.put, List.setIfInBounds_toArray, List.set_cons_zero, List.set_cons_succ])
          refine wpAnyH_take (i := 3) (oi := { dst := some 69, op := Go.Op.binOp Go.BinOp.add 3 (Go.Operand.tmp 68) (Go.Operand.const (Go.Value.int Go.IntKind.i64 1)) 3, type := 3, pos := "ref.go:425", after := #[{ on := 2, ground := Go.Ground.data }], guard := none }) (v := ?_) rfl (by kernel_rfl) (by kernel_rfl) (by kernel_rfl) (fun _ _ _ h => h) (Or.inl ⟨by rfl, ?_⟩) hHeld0 ?_
          rotate_left
          · intro w hSw
            (try dsimp only at hSw)
            go_simp
            (try with_reducible rfl)
          (try simp only [Act.put, List.setIfInBounds_toArray, List.set_cons_zero, List.set_cons_succ])
          refine wpAnyH_take (i := 4) (oi := { dst := some 70, op := Go.Op.load 26 (Go.Operand.tmp 4), type := 26, pos := "ref.go:425", after := #[], guard := none }) (v := ?_) rfl (by kernel_rfl) (by kernel_rfl) (by kernel_rfl) (fun _ _ _ h => h) (Or.inl ⟨by rfl, ?_⟩) hHeld0 ?_
          rotate_left
          · intro w hSw
            (try dsimp only at hSw)
            go_simp
            (try with_reducible rfl)
          (try simp only [Act.put, List.setIfInBounds_toArray, List.set_cons_zero, List.set_cons_succ])
          refine wpAnyH_take (i := 5) (oi := { dst := some 71, op := Go.Op.move (Go.Operand.tmp 13), type := 47, pos := "ref.go:425", after := #[], guard := none }) (v := ?_) rfl (by kernel_rfl) (by kernel_rfl) (by kernel_rfl) (fun _ _ _ h => h) (Or.inl ⟨by rfl, ?_⟩) hHeld0 ?_
          rotate_left
          · intro w hSw
            (try dsimp only at hSw)
            go_simp
            (try with_reducible rfl)
          (try simp only [Act.put, List.setIfInBounds_toArray, List.set_cons_zero, List.set_cons_succ])
          refine wpAnyH_take (i := 6) (oi := { dst := some 72, op := Go.Op.move (Go.Operand.tmp 14), type := 3, pos := "ref.go:425", after := #[], guard := none }) (v := ?_) rfl (by kernel_rfl) (by kernel_rfl) (by kernel_rfl) (fun _ _ _ h => h) (Or.inl ⟨by rfl, ?_⟩) hHeld0 ?_
          rotate_left
          · intro w hSw
            (try dsimp only at hSw)
            go_simp
            (try with_reducible rfl)
          (try simp only [Act.put, List.setIfInBounds_toArray, List.set_cons_zero, List.set_cons_succ])
          refine wpAnyH_take (i := 7) (oi := { dst := some 73, op := Go.Op.indexAddr 47 (Go.Operand.tmp 71) (Go.Operand.tmp 72), type := 0, pos := "ref.go:425", after := #[{ on := 5, ground := Go.Ground.data }, { on := 6, ground := Go.Ground.data }], guard := none }) (v := ?_) rfl (by kernel_rfl) (by kernel_rfl) (by kernel_rfl) (fun _ _ _ h => h) (Or.inl ⟨by rfl, ?_⟩) hHeld0 ?_
          rotate_left
          · intro w hSw
            (try dsimp only at hSw)
            go_simp
            (try with_reducible rfl)
          (try simp only [Act.put, List.setIfInBounds_toArray, List.set_cons_zero, List.set_cons_succ])
          refine wpAnyH_take (i := 8) (oi := { dst := some 74, op := Go.Op.fieldAddr 49 (Go.Operand.tmp 73) 0, type := 0, pos := "ref.go:425", after := #[{ on := 7, ground := Go.Ground.data }], guard := none }) (v := ?_) rfl (by kernel_rfl) (by kernel_rfl) (by kernel_rfl) (fun _ _ _ h => h) (Or.inl ⟨by rfl, ?_⟩) hHeld0 ?_
          rotate_left
          · intro w hSw
            (try dsimp only at hSw)
            go_simp
            (try with_reducible rfl)
          (try simp only [Act.put, List.setIfInBounds_toArray, List.set_cons_zero, List.set_cons_succ])
          refine wpAnyH_take (i := 9) (oi := { dst := some 75, op := Go.Op.load 3 (Go.Operand.tmp 74), type := 3, pos := "ref.go:425", after := #[{ on := 8, ground := Go.Ground.data }], guard := none }) (v := ?_) rfl (by kernel_rfl) (by kernel_rfl) (by kernel_rfl) (fun _ _ _ h => h) (Or.inl ⟨by rfl, ?_⟩) hHeld0 ?_
          rotate_left
          · intro w hSw
            (try dsimp only at hSw)
            go_simp
            (try with_reducible rfl)
          (try simp only [Act.put, List.setIfInBounds_toArray, List.set_cons_zero, List.set_cons_succ])
          refine wpAnyH_take (i := 10) (oi := { dst := some 76, op := Go.Op.move (Go.Operand.tmp 3), type := 9, pos := "ref.go:425", after := #[], guard := none }) (v := ?_) rfl (by kernel_rfl) (by kernel_rfl) (by kernel_rfl) (fun _ _ _ h => h) (Or.inl ⟨by rfl, ?_⟩) hHeld0 ?_
          rotate_left
          · intro w hSw
            (try dsimp only at hSw)
            go_simp
            (try with_reducible rfl)
          (try simp only [Act.put, List.setIfInBounds_toArray, List.set_cons_zero, List.set_cons_succ])
          refine wpAnyH_take (i := 13) (oi := { dst := some 79, op := Go.Op.load 26 (Go.Operand.tmp 4), type := 26, pos := "ref.go:425", after := #[], guard := none }) (v := ?_) rfl (by kernel_rfl) (by kernel_rfl) (by kernel_rfl) (fun _ _ _ h => h) (Or.inl ⟨by rfl, ?_⟩) hHeld0 ?_
          rotate_left
          · intro w hSw
            (try dsimp only at hSw)
            go_simp
            (try with_reducible rfl)
          (try simp only [Act.put, List.setIfInBounds_toArray, List.set_cons_zero, List.set_cons_succ])
          refine wpAnyH_take (i := 14) (oi := { dst := some 80, op := Go.Op.move (Go.Operand.tmp 13), type := 47, pos := "ref.go:425", after := #[], guard := none }) (v := ?_) rfl (by kernel_rfl) (by kernel_rfl) (by kernel_rfl) (fun _ _ _ h => h) (Or.inl ⟨by rfl, ?_⟩) hHeld0 ?_
          rotate_left
          · intro w hSw
            (try dsimp only at hSw)
            go_simp
            (try with_reducible rfl)
          (try simp only [Act.put, List.setIfInBounds_toArray, List.set_cons_zero, List.set_cons_succ])
          refine wpAnyH_take (i := 15) (oi := { dst := some 81, op := Go.Op.move (Go.Operand.tmp 14), type := 3, pos := "ref.go:425", after := #[], guard := none }) (v := ?_) rfl (by kernel_rfl) (by kernel_rfl) (by kernel_rfl) (fun _ _ _ h => h) (Or.inl ⟨by rfl, ?_⟩) hHeld0 ?_
          rotate_left
          · intro w hSw
            (try dsimp only at hSw)
            go_simp
            (try with_reducible rfl)
          (try simp only [Act.put, List.setIfInBounds_toArray, List.set_cons_zero, List.set_cons_succ])
          refine wpAnyH_take (i := 16) (oi := { dst := some 82, op := Go.Op.indexAddr 47 (Go.Operand.tmp 80) (Go.Operand.tmp 81), type := 0, pos := "ref.go:425", after := #[{ on := 14, ground := Go.Ground.data }, { on := 15, ground := Go.Ground.data }], guard := none }) (v := ?_) rfl (by kernel_rfl) (by kernel_rfl) (by kernel_rfl) (fun _ _ _ h => h) (Or.inl ⟨by rfl, ?_⟩) hHeld0 ?_
          rotate_left
          · intro w hSw
            (try dsimp only at hSw)
            go_simp
            (try with_reducible rfl)
          (try simp only [Act.put, List.setIfInBounds_toArray, List.set_cons_zero, List.set_cons_succ])
          refine wpAnyH_take (i := 17) (oi := { dst := some 83, op := Go.Op.fieldAddr 49 (Go.Operand.tmp 82) 2, type := 0, pos := "ref.go:425", after := #[{ on := 16, ground := Go.Ground.data }], guard := none }) (v := ?_) rfl (by kernel_rfl) (by kernel_rfl) (by kernel_rfl) (fun _ _ _ h => h) (Or.inl ⟨by rfl, ?_⟩) hHeld0 ?_
          rotate_left
          · intro w hSw
            (try dsimp only at hSw)
            go_simp
            (try with_reducible rfl)
          (try simp only [Act.put, List.setIfInBounds_toArray, List.set_cons_zero, List.set_cons_succ])
          refine wpAnyH_take (i := 18) (oi := { dst := some 84, op := Go.Op.load 9 (Go.Operand.tmp 83), type := 9, pos := "ref.go:425", after := #[{ on := 17, ground := Go.Ground.data }], guard := none }) (v := ?_) rfl (by kernel_rfl) (by kernel_rfl) (by kernel_rfl) (fun _ _ _ h => h) (Or.inl ⟨by rfl, ?_⟩) hHeld0 ?_
          rotate_left
          · intro w hSw
            (try dsimp only at hSw)
            go_simp
            (try with_reducible rfl)
          (try simp only [Act.put, List.setIfInBounds_toArray, List.set_cons_zero, List.set_cons_succ])
          refine wpAnyH_ready (rs := [1, 11]) (by kernel_rfl) (by simp) ?_
          refine AllReadyH.cons (o := { dst := some 67, op := Go.Op.load 56 (Go.Operand.tmp 66), type := 56, pos := "ref.go:425", after := #[{ on := 0, ground := Go.Ground.data }], guard := none }) rfl (fun K hK => ?_) (AllReadyH.cons (o := { dst := some 77, op := Go.Op.call { callee := Go.Callee.value (Go.Operand.func 57), args := #[Go.Operand.tmp 70, Go.Operand.tmp 75, Go.Operand.tmp 76], argTypes := #[26, 3, 9] }, type := 9, pos := "ref.go:425", after := #[{ on := 4, ground := Go.Ground.data }, { on := 9, ground := Go.Ground.data }, { on := 10, ground := Go.Ground.data }], guard := none }) rfl (fun K hK => ?_) AllReadyH.nil)
          ·
            go_simp
            refine hK.out _ _ (by first | with_reducible exact KEEPS.out _ hbX | with_reducible exact KEEPS.out _ hbA | with_reducible exact (KEEPG.out _ _ hbA hg6).1 | with_reducible exact (KEEPG.out _ _ hbA hg6).2 _) (fun hHeld1 => ?_)
            clear hK K hHeld0
            (try simp only [Act.put, List.setIfInBounds_toArray, List.set_cons_zero, List.set_cons_succ])
            refine wpAnyH_ready (rs := [11]) (by kernel_rfl) (by simp) ?_
            refine AllReadyH.cons (o := { dst := some 77, op := Go.Op.call { callee := Go.Callee.value (Go.Operand.func 57), args := #[Go.Operand.tmp 70, Go.Operand.tmp 75, Go.Operand.tmp 76], argTypes := #[26, 3, 9] }, type := 9, pos := "ref.go:425", after := #[{ on := 4, ground := Go.Ground.data }, { on := 9, ground := Go.Ground.data }, { on := 10, ground := Go.Ground.data }], guard := none }) rfl (fun K hK => ?_) AllReadyH.nil
            go_simp
            (go_at_call 57; (with_reducible refine (HNA.out _ hbX).mono ?_); rintro e w3 ⟨rfl, hb3⟩; have hbX := hbX.trans (hb3.mono hbX.size); obtain ⟨r0, r1, r2, r3, r4, r5⟩ := KEEP.out _ hbX)
            go_wp2_with fail
            refine hK.out _ _ (by first | with_reducible exact KEEPS.out _ hbX | with_reducible exact KEEPS.out _ hbA | with_reducible exact (KEEPG.out _ _ hbA hg6).1 | with_reducible exact (KEEPG.out _ _ hbA hg6).2 _) (fun hHeld2 => ?_)
            clear hK K hHeld1
            (try simp only [Act.put, List.setIfInBounds_toArray, List.set_cons_zero, List.set_cons_succ])
            refine wpAnyH_take (i := 12) (oi := { dst := some 78, op := Go.Op.binOp Go.BinOp.add 9 (Go.Operand.tmp 77) (Go.Operand.const (Go.Value.string { data := #[58, 32] })) 9, type := 9, pos := "ref.go:425", after := #[{ on := 11, ground := Go.Ground.data }], guard := none }) (v := ?_) rfl (by kernel_rfl) (by kernel_rfl) (by kernel_rfl) (fun _ _ _ h => h) (Or.inl ⟨by rfl, ?_⟩) hHeld2 ?_
            rotate_left
            · intro w hSw
              (try dsimp only at hSw)
              go_simp
              (try with_reducible rfl)
            (try simp only [Act.put, List.setIfInBounds_toArray, List.set_cons_zero, List.set_cons_succ])
            refine wpAnyH_ready (rs := [19]) (by kernel_rfl) (by simp) ?_
            refine AllReadyH.cons (o := { dst := some 85, op := Go.Op.call { callee := Go.Callee.value (Go.Operand.func 62), args := #[Go.Operand.tmp 79, Go.Operand.tmp 84], argTypes := #[26, 9] }, type := 9, pos := "ref.go:425", after := #[{ on := 13, ground := Go.Ground.data }, { on := 18, ground := Go.Ground.data }, { on := 11, ground := Go.Ground.chain }], guard := none }) rfl (fun K hK => ?_) AllReadyH.nil
            go_simp
            (go_at_call 62; (with_reducible refine (HEX.out _ hbX).mono ?_); rintro e w4 ⟨rfl, hb4⟩; have hbX := hbX.trans (hb4.mono hbX.size); have hbA := hbX.alloc hbX.size (nodC (pN n nm tx)); have hA := HSX.out.call hbA; have kB := hA.base_; have kS := one_lay w4 (pN n nm tx); have kF := fun b hb => one_off (o := nodC (pN n nm tx)) HVL.out hbX b hb; have r0 := (KEEP.out _ hbX).1; have r1 := (KEEP.out _ hbA).1)
            go_wp2_with fail
            refine hK.out _ _ (by first | with_reducible exact KEEPS.out _ hbX | with_reducible exact KEEPS.out _ hbA | with_reducible exact (KEEPG.out _ _ hbA hg6).1 | with_reducible exact (KEEPG.out _ _ hbA hg6).2 _) (fun hHeld3 => ?_)
            clear hK K hHeld2
            (try simp only [Act.put, List.setIfInBounds_toArray, List.set_cons_zero, List.set_cons_succ])
            refine wpAnyH_take (i := 20) (oi := { dst := some 86, op := Go.Op.binOp Go.BinOp.add 9 (Go.Operand.tmp 78) (Go.Operand.tmp 85) 9, type := 9, pos := "ref.go:425", after := #[{ on := 12, ground := Go.Ground.data }, { on := 19, ground := Go.Ground.data }], guard := none }) (v := ?_) rfl (by kernel_rfl) (by kernel_rfl) (by kernel_rfl) (fun _ _ _ h => h) (Or.inl ⟨by rfl, ?_⟩) hHeld3 ?_
            rotate_left
            · intro w hSw
              (try dsimp only at hSw)
              go_simp
              (try with_reducible rfl)
            (try simp only [Act.put, List.setIfInBounds_toArray, List.set_cons_zero, List.set_cons_succ])
            refine wpAnyH_take (i := 21) (oi := { dst := some 87, op := Go.Op.build 61 #[(0, Go.Operand.tmp 69), (1, Go.Operand.const (Go.Value.string { data := #[112] })), (2, Go.Operand.tmp 86)], type := 61, pos := "ref.go:425", after := #[{ on := 3, ground := Go.Ground.data }, { on := 20, ground := Go.Ground.data }], guard := none }) (v := ?_) rfl (by kernel_rfl) (by kernel_rfl) (by kernel_rfl) (fun _ _ _ h => h) (Or.inl ⟨by rfl, ?_⟩) hHeld3 ?_
            rotate_left
            · intro w hSw
              (try dsimp only at hSw)
              go_simp
              (try with_reducible rfl)
            (try simp only [Act.put, List.setIfInBounds_toArray, List.set_cons_zero, List.set_cons_succ])
            refine wpAnyH_ready (rs := [22]) (by kernel_rfl) (by simp) ?_
            refine AllReadyH.cons (o := { dst := some 88, op := Go.Op.buildSlice 56 1 #[(0, Go.Operand.tmp 87)], type := 56, pos := "ref.go:425", after := #[{ on := 21, ground := Go.Ground.data }], guard := none }) rfl (fun K hK => ?_) AllReadyH.nil
            go_simp
            refine hK.out _ _ (by first | with_reducible exact KEEPS.out _ hbX | with_reducible exact KEEPS.out _ hbA | with_reducible exact (KEEPG.out _ _ hbA hg6).1 | with_reducible exact (KEEPG.out _ _ hbA hg6).2 _) (fun hHeld4 => ?_)
            clear hK K hHeld3
            (try simp only [Act.put, List.setIfInBounds_toArray, List.set_cons_zero, List.set_cons_succ])
            refine wpAnyH_ready (rs := [23]) (by kernel_rfl) (by simp) ?_
            refine AllReadyH.cons (o := { dst := some 89, op := Go.Op.call { callee := Go.Callee.builtin Go.Builtin.append, args := #[Go.Operand.tmp 67, Go.Operand.tmp 88], argTypes := #[56, 56] }, type := 56, pos := "ref.go:425", after := #[{ on := 1, ground := Go.Ground.data }, { on := 22, ground := Go.Ground.data }, { on := 19, ground := Go.Ground.chain }], guard := none }) rfl (fun K hK => ?_) AllReadyH.nil
            (refine step_append_rep rfl nodS nodE_ _ (.tmp 67) (.tmp 88) rfl rfl hA.row rfl (ys := [pN n nm tx]) kS kF kN (by decide) kB ?_; intro v6 w6 hown6 hg6 hat6; have hk6 := hA.old hg6; have hA6 := hA.app hown6 hg6 hat6; have hz6 := hA.frz hg6; have hq6 := qs_keep HKR.out hbA hg6 HVO.out hat6 kQ; rw [HLL.out] at hown6 hA6; obtain ⟨A6, c6, rfl, -⟩ := id (hown6.toSl nodS))
            refine hK.out _ _ (by first | with_reducible exact KEEPS.out _ hbX | with_reducible exact KEEPS.out _ hbA | with_reducible exact (KEEPG.out _ _ hbA hg6).1 | with_reducible exact (KEEPG.out _ _ hbA hg6).2 _) (fun hHeld5 => ?_)
            clear hK K hHeld4
            (try simp only [Act.put, List.setIfInBounds_toArray, List.set_cons_zero, List.set_cons_succ])
            refine wpAnyH_take (i := 24) (oi := { dst := some 90, op := Go.Op.fieldAddr 70 (Go.Operand.tmp 12) 2, type := 0, pos := "ref.go:425", after := #[{ on := 0, ground := Go.Ground.phase }, { on := 1, ground := Go.Ground.phase }, { on := 2, ground := Go.Ground.phase }, { on := 3, ground := Go.Ground.phase }, { on := 4, ground := Go.Ground.phase }, { on := 5, ground := Go.Ground.phase }, { on := 6, ground := Go.Ground.phase }, { on := 7, ground := Go.Ground.phase }, { on := 8, ground := Go.Ground.phase }, { on := 9, ground := Go.Ground.phase }, { on := 10, ground := Go.Ground.phase }, { on := 11, ground := Go.Ground.phase }, { on := 12, ground := Go.Ground.phase }, { on := 13, ground := Go.Ground.phase }, { on := 14, ground := Go.Ground.phase }, { on := 15, ground := Go.Ground.phase }, { on := 16, ground := Go.Ground.phase }, { on := 17, ground := Go.Ground.phase }, { on := 18, ground := Go.Ground.phase }, { on := 19, ground := Go.Ground.phase }, { on := 20, ground := Go.Ground.phase }, { on := 21, ground := Go.Ground.phase }, { on := 22, ground := Go.Ground.phase }, { on := 23, ground := Go.Ground.phase }], guard := none }) (v := ?_) rfl (by kernel_rfl) (by kernel_rfl) (by kernel_rfl) (fun _ _ _ h => h) (Or.inl ⟨by rfl, ?_⟩) hHeld5 ?_
            rotate_left
            · intro w hSw
              (try dsimp only at hSw)
              go_simp
              (try with_reducible rfl)
            (try simp only [Act.put, List.setIfInBounds_toArray, List.set_cons_zero, List.set_cons_succ])
            refine wpAnyH_ready (rs := [25]) (by kernel_rfl) (by simp) ?_
            refine AllReadyH.cons (o := { dst := none, op := Go.Op.store 56 (Go.Operand.tmp 90) (Go.Operand.tmp 89), type := 0, pos := "ref.go:425", after := #[{ on := 24, ground := Go.Ground.data }, { on := 23, ground := Go.Ground.data }, { on := 23, ground := Go.Ground.chain }, { on := 0, ground := Go.Ground.phase }, { on := 1, ground := Go.Ground.phase }, { on := 2, ground := Go.Ground.phase }, { on := 3, ground := Go.Ground.phase }, { on := 4, ground := Go.Ground.phase }, { on := 5, ground := Go.Ground.phase }, { on := 6, ground := Go.Ground.phase }, { on := 7, ground := Go.Ground.phase }, { on := 8, ground := Go.Ground.phase }, { on := 9, ground := Go.Ground.phase }, { on := 10, ground := Go.Ground.phase }, { on := 11, ground := Go.Ground.phase }, { on := 12, ground := Go.Ground.phase }, { on := 13, ground := Go.Ground.phase }, { on := 14, ground := Go.Ground.phase }, { on := 15, ground := Go.Ground.phase }, { on := 16, ground := Go.Ground.phase }, { on := 17, ground := Go.Ground.phase }, { on := 18, ground := Go.Ground.phase }, { on := 19, ground := Go.Ground.phase }, { on := 20, ground := Go.Ground.phase }, { on := 21, ground := Go.Ground.phase }, { on := 22, ground := Go.Ground.phase }, { on := 23, ground := Go.Ground.phase }], guard := none }) rfl (fun K hK => ?_) AllReadyH.nil
            go_simp
            refine hK.out _ _ (by first | with_reducible exact KEEPS.out _ hbX | with_reducible exact KEEPS.out _ hbA | with_reducible exact (KEEPG.out _ _ hbA hg6).1 | with_reducible exact (KEEPG.out _ _ hbA hg6).2 _) (fun hHeld6 => ?_)
            clear hK K hHeld5
            (try simp only [Act.put, List.setIfInBounds_toArray, List.set_cons_zero, List.set_cons_succ])
            refine wpAnyH_done (by kernel_rfl) ?_ _
            go_wp2
            go_roundw
            case rel => exact ⟨k + 1, _, by omega, by go_num, by rw [HX.out, ← List.append_assoc, HXT.out]; rw [show ([⟨pntN n + 1, parT, nm ++ ⟨#[58, 32]⟩ ++ tx⟩] : List Node) = [pN n nm tx] from rfl, HLL.out]; exact hA6, hq6.1.frame fctS (fun b' hb' => Below.heap_setCell _ _ _ _ (by have := hb'.1; have := HPW.out; show b' ≠ go; omega)), by simpa [World.setCell] using hq6.2.1, hq6.2.2⟩
            case measure => simp [intOf]; omega
          ·
            go_simp
            (go_at_call 57; (with_reducible refine (HNA.out _ hbX).mono ?_); rintro e w3 ⟨rfl, hb3⟩; have hbX := hbX.trans (hb3.mono hbX.size); obtain ⟨r0, r1, r2, r3, r4, r5⟩ := KEEP.out _ hbX)
            go_wp2_with fail
            refine hK.out _ _ (by first | with_reducible exact KEEPS.out _ hbX | with_reducible exact KEEPS.out _ hbA | with_reducible exact (KEEPG.out _ _ hbA hg6).1 | with_reducible exact (KEEPG.out _ _ hbA hg6).2 _) (fun hHeld1 => ?_)
            clear hK K hHeld0
            (try simp only [Act.put, List.setIfInBounds_toArray, List.set_cons_zero, List.set_cons_succ])
            refine wpAnyH_take (i := 12) (oi := { dst := some 78, op := Go.Op.binOp Go.BinOp.add 9 (Go.Operand.tmp 77) (Go.Operand.const (Go.Value.string { data := #[58, 32] })) 9, type := 9, pos := "ref.go:425", after := #[{ on := 11, ground := Go.Ground.data }], guard := none }) (v := ?_) rfl (by kernel_rfl) (by kernel_rfl) (by kernel_rfl) (fun _ _ _ h => h) (Or.inl ⟨by rfl, ?_⟩) hHeld1 ?_
            rotate_left
            · intro w hSw
              (try dsimp only at hSw)
              go_simp
              (try with_reducible rfl)
            (try simp only [Act.put, List.setIfInBounds_toArray, List.set_cons_zero, List.set_cons_succ])
            refine wpAnyH_ready (rs := [1, 19]) (by kernel_rfl) (by simp) ?_
            refine AllReadyH.cons (o := { dst := some 67, op := Go.Op.load 56 (Go.Operand.tmp 66), type := 56, pos := "ref.go:425", after := #[{ on := 0, ground := Go.Ground.data }], guard := none }) rfl (fun K hK => ?_) (AllReadyH.cons (o := { dst := some 85, op := Go.Op.call { callee := Go.Callee.value (Go.Operand.func 62), args := #[Go.Operand.tmp 79, Go.Operand.tmp 84], argTypes := #[26, 9] }, type := 9, pos := "ref.go:425", after := #[{ on := 13, ground := Go.Ground.data }, { on := 18, ground := Go.Ground.data }, { on := 11, ground := Go.Ground.chain }], guard := none }) rfl (fun K hK => ?_) AllReadyH.nil)
            ·
              go_simp
              refine hK.out _ _ (by first | with_reducible exact KEEPS.out _ hbX | with_reducible exact KEEPS.out _ hbA | with_reducible exact (KEEPG.out _ _ hbA hg6).1 | with_reducible exact (KEEPG.out _ _ hbA hg6).2 _) (fun hHeld2 => ?_)
              clear hK K hHeld1
              (try simp only [Act.put, List.setIfInBounds_toArray, List.set_cons_zero, List.set_cons_succ])
              refine wpAnyH_ready (rs := [19]) (by kernel_rfl) (by simp) ?_
              refine AllReadyH.cons (o := { dst := some 85, op := Go.Op.call { callee := Go.Callee.value (Go.Operand.func 62), args := #[Go.Operand.tmp 79, Go.Operand.tmp 84], argTypes := #[26, 9] }, type := 9, pos := "ref.go:425", after := #[{ on := 13, ground := Go.Ground.data }, { on := 18, ground := Go.Ground.data }, { on := 11, ground := Go.Ground.chain }], guard := none }) rfl (fun K hK => ?_) AllReadyH.nil
              go_simp
              (go_at_call 62; (with_reducible refine (HEX.out _ hbX).mono ?_); rintro e w4 ⟨rfl, hb4⟩; have hbX := hbX.trans (hb4.mono hbX.size); have hbA := hbX.alloc hbX.size (nodC (pN n nm tx)); have hA := HSX.out.call hbA; have kB := hA.base_; have kS := one_lay w4 (pN n nm tx); have kF := fun b hb => one_off (o := nodC (pN n nm tx)) HVL.out hbX b hb; have r0 := (KEEP.out _ hbX).1; have r1 := (KEEP.out _ hbA).1)
              go_wp2_with fail
              refine hK.out _ _ (by first | with_reducible exact KEEPS.out _ hbX | with_reducible exact KEEPS.out _ hbA | with_reducible exact (KEEPG.out _ _ hbA hg6).1 | with_reducible exact (KEEPG.out _ _ hbA hg6).2 _) (fun hHeld3 => ?_)
              clear hK K hHeld2
              (try simp only [Act.put, List.setIfInBounds_toArray, List.set_cons_zero, List.set_cons_succ])
              refine wpAnyH_take (i := 20) (oi := { dst := some 86, op := Go.Op.binOp Go.BinOp.add 9 (Go.Operand.tmp 78) (Go.Operand.tmp 85) 9, type := 9, pos := "ref.go:425", after := #[{ on := 12, ground := Go.Ground.data }, { on := 19, ground := Go.Ground.data }], guard := none }) (v := ?_) rfl (by kernel_rfl) (by kernel_rfl) (by kernel_rfl) (fun _ _ _ h => h) (Or.inl ⟨by rfl, ?_⟩) hHeld3 ?_
              rotate_left
              · intro w hSw
                (try dsimp only at hSw)
                go_simp
                (try with_reducible rfl)
              (try simp only [Act.put, List.setIfInBounds_toArray, List.set_cons_zero, List.set_cons_succ])
              refine wpAnyH_take (i := 21) (oi := { dst := some 87, op := Go.Op.build 61 #[(0, Go.Operand.tmp 69), (1, Go.Operand.const (Go.Value.string { data := #[112] })), (2, Go.Operand.tmp 86)], type := 61, pos := "ref.go:425", after := #[{ on := 3, ground := Go.Ground.data }, { on := 20, ground := Go.Ground.data }], guard := none }) (v := ?_) rfl (by kernel_rfl) (by kernel_rfl) (by kernel_rfl) (fun _ _ _ h => h) (Or.inl ⟨by rfl, ?_⟩) hHeld3 ?_
              rotate_left
              · intro w hSw
                (try dsimp only at hSw)
                go_simp
                (try with_reducible rfl)
              (try simp only [Act.put, List.setIfInBounds_toArray, List.set_cons_zero, List.set_cons_succ])
              refine wpAnyH_ready (rs := [22]) (by kernel_rfl) (by simp) ?_
              refine AllReadyH.cons (o := { dst := some 88, op := Go.Op.buildSlice 56 1 #[(0, Go.Operand.tmp 87)], type := 56, pos := "ref.go:425", after := #[{ on := 21, ground := Go.Ground.data }], guard := none }) rfl (fun K hK => ?_) AllReadyH.nil
              go_simp
              refine hK.out _ _ (by first | with_reducible exact KEEPS.out _ hbX | with_reducible exact KEEPS.out _ hbA | with_reducible exact (KEEPG.out _ _ hbA hg6).1 | with_reducible exact (KEEPG.out _ _ hbA hg6).2 _) (fun hHeld4 => ?_)
              clear hK K hHeld3
              (try simp only [Act.put, List.setIfInBounds_toArray, List.set_cons_zero, List.set_cons_succ])
              refine wpAnyH_ready (rs := [23]) (by kernel_rfl) (by simp) ?_
              refine AllReadyH.cons (o := { dst := some 89, op := Go.Op.call { callee := Go.Callee.builtin Go.Builtin.append, args := #[Go.Operand.tmp 67, Go.Operand.tmp 88], argTypes := #[56, 56] }, type := 56, pos := "ref.go:425", after := #[{ on := 1, ground := Go.Ground.data }, { on := 22, ground := Go.Ground.data }, { on := 19, ground := Go.Ground.chain }], guard := none }) rfl (fun K hK => ?_) AllReadyH.nil
              (refine step_append_rep rfl nodS nodE_ _ (.tmp 67) (.tmp 88) rfl rfl hA.row rfl (ys := [pN n nm tx]) kS kF kN (by decide) kB ?_; intro v6 w6 hown6 hg6 hat6; have hk6 := hA.old hg6; have hA6 := hA.app hown6 hg6 hat6; have hz6 := hA.frz hg6; have hq6 := qs_keep HKR.out hbA hg6 HVO.out hat6 kQ; rw [HLL.out] at hown6 hA6; obtain ⟨A6, c6, rfl, -⟩ := id (hown6.toSl nodS))
              refine hK.out _ _ (by first | with_reducible exact KEEPS.out _ hbX | with_reducible exact KEEPS.out _ hbA | with_reducible exact (KEEPG.out _ _ hbA hg6).1 | with_reducible exact (KEEPG.out _ _ hbA hg6).2 _) (fun hHeld5 => ?_)
              clear hK K hHeld4
              (try simp only [Act.put, List.setIfInBounds_toArray, List.set_cons_zero, List.set_cons_succ])
              refine wpAnyH_take (i := 24) (oi := { dst := some 90, op := Go.Op.fieldAddr 70 (Go.Operand.tmp 12) 2, type := 0, pos := "ref.go:425", after := #[{ on := 0, ground := Go.Ground.phase }, { on := 1, ground := Go.Ground.phase }, { on := 2, ground := Go.Ground.phase }, { on := 3, ground := Go.Ground.phase }, { on := 4, ground := Go.Ground.phase }, { on := 5, ground := Go.Ground.phase }, { on := 6, ground := Go.Ground.phase }, { on := 7, ground := Go.Ground.phase }, { on := 8, ground := Go.Ground.phase }, { on := 9, ground := Go.Ground.phase }, { on := 10, ground := Go.Ground.phase }, { on := 11, ground := Go.Ground.phase }, { on := 12, ground := Go.Ground.phase }, { on := 13, ground := Go.Ground.phase }, { on := 14, ground := Go.Ground.phase }, { on := 15, ground := Go.Ground.phase }, { on := 16, ground := Go.Ground.phase }, { on := 17, ground := Go.Ground.phase }, { on := 18, ground := Go.Ground.phase }, { on := 19, ground := Go.Ground.phase }, { on := 20, ground := Go.Ground.phase }, { on := 21, ground := Go.Ground.phase }, { on := 22, ground := Go.Ground.phase }, { on := 23, ground := Go.Ground.phase }], guard := none }) (v := ?_) rfl (by kernel_rfl) (by kernel_rfl) (by kernel_rfl) (fun _ _ _ h => h) (Or.inl ⟨by rfl, ?_⟩) hHeld5 ?_
              rotate_left
              · intro w hSw
                (try dsimp only at hSw)
                go_simp
                (try with_reducible rfl)
              (try simp only [Act.put, List.setIfInBounds_toArray, List.set_cons_zero, List.set_cons_succ])
              refine wpAnyH_ready (rs := [25]) (by kernel_rfl) (by simp) ?_
              refine AllReadyH.cons (o := { dst := none, op := Go.Op.store 56 (Go.Operand.tmp 90) (Go.Operand.tmp 89), type := 0, pos := "ref.go:425", after := #[{ on := 24, ground := Go.Ground.data }, { on := 23, ground := Go.Ground.data }, { on := 23, ground := Go.Ground.chain }, { on := 0, ground := Go.Ground.phase }, { on := 1, ground := Go.Ground.phase }, { on := 2, ground := Go.Ground.phase }, { on := 3, ground := Go.Ground.phase }, { on := 4, ground := Go.Ground.phase }, { on := 5, ground := Go.Ground.phase }, { on := 6, ground := Go.Ground.phase }, { on := 7, ground := Go.Ground.phase }, { on := 8, ground := Go.Ground.phase }, { on := 9, ground := Go.Ground.phase }, { on := 10, ground := Go.Ground.phase }, { on := 11, ground := Go.Ground.phase }, { on := 12, ground := Go.Ground.phase }, { on := 13, ground := Go.Ground.phase }, { on := 14, ground := Go.Ground.phase }, { on := 15, ground := Go.Ground.phase }, { on := 16, ground := Go.Ground.phase }, { on := 17, ground := Go.Ground.phase }, { on := 18, ground := Go.Ground.phase }, { on := 19, ground := Go.Ground.phase }, { on := 20, ground := Go.Ground.phase }, { on := 21, ground := Go.Ground.phase }, { on := 22, ground := Go.Ground.phase }, { on := 23, ground := Go.Ground.phase }], guard := none }) rfl (fun K hK => ?_) AllReadyH.nil
              go_simp
              refine hK.out _ _ (by first | with_reducible exact KEEPS.out _ hbX | with_reducible exact KEEPS.out _ hbA | with_reducible exact (KEEPG.out _ _ hbA hg6).1 | with_reducible exact (KEEPG.out _ _ hbA hg6).2 _) (fun hHeld6 => ?_)
              clear hK K hHeld5
              (try simp only [Act.put, List.setIfInBounds_toArray, List.set_cons_zero, List.set_cons_succ])
              refine wpAnyH_done (by kernel_rfl) ?_ _
              go_wp2
              go_roundw
              case rel => exact ⟨k + 1, _, by omega, by go_num, by rw [HX.out, ← List.append_assoc, HXT.out]; rw [show ([⟨pntN n + 1, parT, nm ++ ⟨#[58, 32]⟩ ++ tx⟩] : List Node) = [pN n nm tx] from rfl, HLL.out]; exact hA6, hq6.1.frame fctS (fun b' hb' => Below.heap_setCell _ _ _ _ (by have := hb'.1; have := HPW.out; show b' ≠ go; omega)), by simpa [World.setCell] using hq6.2.1, hq6.2.2⟩
              case measure => simp [intOf]; omega
            ·
              go_simp
              (go_at_call 62; (with_reducible refine (HEX.out _ hbX).mono ?_); rintro e w4 ⟨rfl, hb4⟩; have hbX := hbX.trans (hb4.mono hbX.size); have hbA := hbX.alloc hbX.size (nodC (pN n nm tx)); have hA := HSX.out.call hbA; have kB := hA.base_; have kS := one_lay w4 (pN n nm tx); have kF := fun b hb => one_off (o := nodC (pN n nm tx)) HVL.out hbX b hb; have r0 := (KEEP.out _ hbX).1; have r1 := (KEEP.out _ hbA).1)
              go_wp2_with fail
              refine hK.out _ _ (by first | with_reducible exact KEEPS.out _ hbX | with_reducible exact KEEPS.out _ hbA | with_reducible exact (KEEPG.out _ _ hbA hg6).1 | with_reducible exact (KEEPG.out _ _ hbA hg6).2 _) (fun hHeld2 => ?_)
              clear hK K hHeld1
              (try simp only [Act.put, List.setIfInBounds_toArray, List.set_cons_zero, List.set_cons_succ])
              refine wpAnyH_take (i := 20) (oi := { dst := some 86, op := Go.Op.binOp Go.BinOp.add 9 (Go.Operand.tmp 78) (Go.Operand.tmp 85) 9, type := 9, pos := "ref.go:425", after := #[{ on := 12, ground := Go.Ground.data }, { on := 19, ground := Go.Ground.data }], guard := none }) (v := ?_) rfl (by kernel_rfl) (by kernel_rfl) (by kernel_rfl) (fun _ _ _ h => h) (Or.inl ⟨by rfl, ?_⟩) hHeld2 ?_
              rotate_left
              · intro w hSw
                (try dsimp only at hSw)
                go_simp
                (try with_reducible rfl)
              (try simp only [Act.put, List.setIfInBounds_toArray, List.set_cons_zero, List.set_cons_succ])
              refine wpAnyH_take (i := 21) (oi := { dst := some 87, op := Go.Op.build 61 #[(0, Go.Operand.tmp 69), (1, Go.Operand.const (Go.Value.string { data := #[112] })), (2, Go.Operand.tmp 86)], type := 61, pos := "ref.go:425", after := #[{ on := 3, ground := Go.Ground.data }, { on := 20, ground := Go.Ground.data }], guard := none }) (v := ?_) rfl (by kernel_rfl) (by kernel_rfl) (by kernel_rfl) (fun _ _ _ h => h) (Or.inl ⟨by rfl, ?_⟩) hHeld2 ?_
              rotate_left
              · intro w hSw
                (try dsimp only at hSw)
                go_simp
                (try with_reducible rfl)
              (try simp only [Act.put, List.setIfInBounds_toArray, List.set_cons_zero, List.set_cons_succ])
              refine wpAnyH_ready (rs := [1, 22]) (by kernel_rfl) (by simp) ?_
              refine AllReadyH.cons (o := { dst := some 67, op := Go.Op.load 56 (Go.Operand.tmp 66), type := 56, pos := "ref.go:425", after := #[{ on := 0, ground := Go.Ground.data }], guard := none }) rfl (fun K hK => ?_) (AllReadyH.cons (o := { dst := some 88, op := Go.Op.buildSlice 56 1 #[(0, Go.Operand.tmp 87)], type := 56, pos := "ref.go:425", after := #[{ on := 21, ground := Go.Ground.data }], guard := none }) rfl (fun K hK => ?_) AllReadyH.nil)
              ·
                go_simp
                refine hK.out _ _ (by first | with_reducible exact KEEPS.out _ hbX | with_reducible exact KEEPS.out _ hbA | with_reducible exact (KEEPG.out _ _ hbA hg6).1 | with_reducible exact (KEEPG.out _ _ hbA hg6).2 _) (fun hHeld3 => ?_)
                clear hK K hHeld2
                (try simp only [Act.put, List.setIfInBounds_toArray, List.set_cons_zero, List.set_cons_succ])
                refine wpAnyH_ready (rs := [22]) (by kernel_rfl) (by simp) ?_
                refine AllReadyH.cons (o := { dst := some 88, op := Go.Op.buildSlice 56 1 #[(0, Go.Operand.tmp 87)], type := 56, pos := "ref.go:425", after := #[{ on := 21, ground := Go.Ground.data }], guard := none }) rfl (fun K hK => ?_) AllReadyH.nil
                go_simp
                refine hK.out _ _ (by first | with_reducible exact KEEPS.out _ hbX | with_reducible exact KEEPS.out _ hbA | with_reducible exact (KEEPG.out _ _ hbA hg6).1 | with_reducible exact (KEEPG.out _ _ hbA hg6).2 _) (fun hHeld4 => ?_)
                clear hK K hHeld3
                (try simp only [Act.put, List.setIfInBounds_toArray, List.set_cons_zero, List.set_cons_succ])
                refine wpAnyH_ready (rs := [23]) (by kernel_rfl) (by simp) ?_
                refine AllReadyH.cons (o := { dst := some 89, op := Go.Op.call { callee := Go.Callee.builtin Go.Builtin.append, args := #[Go.Operand.tmp 67, Go.Operand.tmp 88], argTypes := #[56, 56] }, type := 56, pos := "ref.go:425", after := #[{ on := 1, ground := Go.Ground.data }, { on := 22, ground := Go.Ground.data }, { on := 19, ground := Go.Ground.chain }], guard := none }) rfl (fun K hK => ?_) AllReadyH.nil
                (refine step_append_rep rfl nodS nodE_ _ (.tmp 67) (.tmp 88) rfl rfl hA.row rfl (ys := [pN n nm tx]) kS kF kN (by decide) kB ?_; intro v6 w6 hown6 hg6 hat6; have hk6 := hA.old hg6; have hA6 := hA.app hown6 hg6 hat6; have hz6 := hA.frz hg6; have hq6 := qs_keep HKR.out hbA hg6 HVO.out hat6 kQ; rw [HLL.out] at hown6 hA6; obtain ⟨A6, c6, rfl, -⟩ := id (hown6.toSl nodS))
                refine hK.out _ _ (by first | with_reducible exact KEEPS.out _ hbX | with_reducible exact KEEPS.out _ hbA | with_reducible exact (KEEPG.out _ _ hbA hg6).1 | with_reducible exact (KEEPG.out _ _ hbA hg6).2 _) (fun hHeld5 => ?_)
                clear hK K hHeld4
                (try simp only [Act.put, List.setIfInBounds_toArray, List.set_cons_zero, List.set_cons_succ])
                refine wpAnyH_take (i := 24) (oi := { dst := some 90, op := Go.Op.fieldAddr 70 (Go.Operand.tmp 12) 2, type := 0, pos := "ref.go:425", after := #[{ on := 0, ground := Go.Ground.phase }, { on := 1, ground := Go.Ground.phase }, { on := 2, ground := Go.Ground.phase }, { on := 3, ground := Go.Ground.phase }, { on := 4, ground := Go.Ground.phase }, { on := 5, ground := Go.Ground.phase }, { on := 6, ground := Go.Ground.phase }, { on := 7, ground := Go.Ground.phase }, { on := 8, ground := Go.Ground.phase }, { on := 9, ground := Go.Ground.phase }, { on := 10, ground := Go.Ground.phase }, { on := 11, ground := Go.Ground.phase }, { on := 12, ground := Go.Ground.phase }, { on := 13, ground := Go.Ground.phase }, { on := 14, ground := Go.Ground.phase }, { on := 15, ground := Go.Ground.phase }, { on := 16, ground := Go.Ground.phase }, { on := 17, ground := Go.Ground.phase }, { on := 18, ground := Go.Ground.phase }, { on := 19, ground := Go.Ground.phase }, { on := 20, ground := Go.Ground.phase }, { on := 21, ground := Go.Ground.phase }, { on := 22, ground := Go.Ground.phase }, { on := 23, ground := Go.Ground.phase }], guard := none }) (v := ?_) rfl (by kernel_rfl) (by kernel_rfl) (by kernel_rfl) (fun _ _ _ h => h) (Or.inl ⟨by rfl, ?_⟩) hHeld5 ?_
                rotate_left
                · intro w hSw
                  (try dsimp only at hSw)
                  go_simp
                  (try with_reducible rfl)
                (try simp only [Act.put, List.setIfInBounds_toArray, List.set_cons_zero, List.set_cons_succ])
                refine wpAnyH_ready (rs := [25]) (by kernel_rfl) (by simp) ?_
                refine AllReadyH.cons (o := { dst := none, op := Go.Op.store 56 (Go.Operand.tmp 90) (Go.Operand.tmp 89), type := 0, pos := "ref.go:425", after := #[{ on := 24, ground := Go.Ground.data }, { on := 23, ground := Go.Ground.data }, { on := 23, ground := Go.Ground.chain }, { on := 0, ground := Go.Ground.phase }, { on := 1, ground := Go.Ground.phase }, { on := 2, ground := Go.Ground.phase }, { on := 3, ground := Go.Ground.phase }, { on := 4, ground := Go.Ground.phase }, { on := 5, ground := Go.Ground.phase }, { on := 6, ground := Go.Ground.phase }, { on := 7, ground := Go.Ground.phase }, { on := 8, ground := Go.Ground.phase }, { on := 9, ground := Go.Ground.phase }, { on := 10, ground := Go.Ground.phase }, { on := 11, ground := Go.Ground.phase }, { on := 12, ground := Go.Ground.phase }, { on := 13, ground := Go.Ground.phase }, { on := 14, ground := Go.Ground.phase }, { on := 15, ground := Go.Ground.phase }, { on := 16, ground := Go.Ground.phase }, { on := 17, ground := Go.Ground.phase }, { on := 18, ground := Go.Ground.phase }, { on := 19, ground := Go.Ground.phase }, { on := 20, ground := Go.Ground.phase }, { on := 21, ground := Go.Ground.phase }, { on := 22, ground := Go.Ground.phase }, { on := 23, ground := Go.Ground.phase }], guard := none }) rfl (fun K hK => ?_) AllReadyH.nil
                go_simp
                refine hK.out _ _ (by first | with_reducible exact KEEPS.out _ hbX | with_reducible exact KEEPS.out _ hbA | with_reducible exact (KEEPG.out _ _ hbA hg6).1 | with_reducible exact (KEEPG.out _ _ hbA hg6).2 _) (fun hHeld6 => ?_)
                clear hK K hHeld5
                (try simp only [Act.put, List.setIfInBounds_toArray, List.set_cons_zero, List.set_cons_succ])
                refine wpAnyH_done (by kernel_rfl) ?_ _
                go_wp2
                go_roundw
                case rel => exact ⟨k + 1, _, by omega, by go_num, by rw [HX.out, ← List.append_assoc, HXT.out]; rw [show ([⟨pntN n + 1, parT, nm ++ ⟨#[58, 32]⟩ ++ tx⟩] : List Node) = [pN n nm tx] from rfl, HLL.out]; exact hA6, hq6.1.frame fctS (fun b' hb' => Below.heap_setCell _ _ _ _ (by have := hb'.1; have := HPW.out; show b' ≠ go; omega)), by simpa [World.setCell] using hq6.2.1, hq6.2.2⟩
                case measure => simp [intOf]; omega
              ·
                go_simp
                refine hK.out _ _ (by first | with_reducible exact KEEPS.out _ hbX | with_reducible exact KEEPS.out _ hbA | with_reducible exact (KEEPG.out _ _ hbA hg6).1 | with_reducible exact (KEEPG.out _ _ hbA hg6).2 _) (fun hHeld3 => ?_)
                clear hK K hHeld2
                (try simp only [Act.put, List.setIfInBounds_toArray, List.set_cons_zero, List.set_cons_succ])
                refine wpAnyH_ready (rs := [1]) (by kernel_rfl) (by simp) ?_
                refine AllReadyH.cons (o := { dst := some 67, op := Go.Op.load 56 (Go.Operand.tmp 66), type := 56, pos := "ref.go:425", after := #[{ on := 0, ground := Go.Ground.data }], guard := none }) rfl (fun K hK => ?_) AllReadyH.nil
                go_simp
                refine hK.out _ _ (by first | with_reducible exact KEEPS.out _ hbX | with_reducible exact KEEPS.out _ hbA | with_reducible exact (KEEPG.out _ _ hbA hg6).1 | with_reducible exact (KEEPG.out _ _ hbA hg6).2 _) (fun hHeld4 => ?_)
                clear hK K hHeld3
                (try simp only [Act.put, List.setIfInBounds_toArray, List.set_cons_zero, List.set_cons_succ])
                refine wpAnyH_ready (rs := [23]) (by kernel_rfl) (by simp) ?_
                refine AllReadyH.cons (o := { dst := some 89, op := Go.Op.call { callee := Go.Callee.builtin Go.Builtin.append, args := #[Go.Operand.tmp 67, Go.Operand.tmp 88], argTypes := #[56, 56] }, type := 56, pos := "ref.go:425", after := #[{ on := 1, ground := Go.Ground.data }, { on := 22, ground := Go.Ground.data }, { on := 19, ground := Go.Ground.chain }], guard := none }) rfl (fun K hK => ?_) AllReadyH.nil
                (refine step_append_rep rfl nodS nodE_ _ (.tmp 67) (.tmp 88) rfl rfl hA.row rfl (ys := [pN n nm tx]) kS kF kN (by decide) kB ?_; intro v6 w6 hown6 hg6 hat6; have hk6 := hA.old hg6; have hA6 := hA.app hown6 hg6 hat6; have hz6 := hA.frz hg6; have hq6 := qs_keep HKR.out hbA hg6 HVO.out hat6 kQ; rw [HLL.out] at hown6 hA6; obtain ⟨A6, c6, rfl, -⟩ := id (hown6.toSl nodS))
                refine hK.out _ _ (by first | with_reducible exact KEEPS.out _ hbX | with_reducible exact KEEPS.out _ hbA | with_reducible exact (KEEPG.out _ _ hbA hg6).1 | with_reducible exact (KEEPG.out _ _ hbA hg6).2 _) (fun hHeld5 => ?_)
                clear hK K hHeld4
                (try simp only [Act.put, List.setIfInBounds_toArray, List.set_cons_zero, List.set_cons_succ])
                refine wpAnyH_take (i := 24) (oi := { dst := some 90, op := Go.Op.fieldAddr 70 (Go.Operand.tmp 12) 2, type := 0, pos := "ref.go:425", after := #[{ on := 0, ground := Go.Ground.phase }, { on := 1, ground := Go.Ground.phase }, { on := 2, ground := Go.Ground.phase }, { on := 3, ground := Go.Ground.phase }, { on := 4, ground := Go.Ground.phase }, { on := 5, ground := Go.Ground.phase }, { on := 6, ground := Go.Ground.phase }, { on := 7, ground := Go.Ground.phase }, { on := 8, ground := Go.Ground.phase }, { on := 9, ground := Go.Ground.phase }, { on := 10, ground := Go.Ground.phase }, { on := 11, ground := Go.Ground.phase }, { on := 12, ground := Go.Ground.phase }, { on := 13, ground := Go.Ground.phase }, { on := 14, ground := Go.Ground.phase }, { on := 15, ground := Go.Ground.phase }, { on := 16, ground := Go.Ground.phase }, { on := 17, ground := Go.Ground.phase }, { on := 18, ground := Go.Ground.phase }, { on := 19, ground := Go.Ground.phase }, { on := 20, ground := Go.Ground.phase }, { on := 21, ground := Go.Ground.phase }, { on := 22, ground := Go.Ground.phase }, { on := 23, ground := Go.Ground.phase }], guard := none }) (v := ?_) rfl (by kernel_rfl) (by kernel_rfl) (by kernel_rfl) (fun _ _ _ h => h) (Or.inl ⟨by rfl, ?_⟩) hHeld5 ?_
                rotate_left
                · intro w hSw
                  (try dsimp only at hSw)
                  go_simp
                  (try with_reducible rfl)
                (try simp only [Act.put, List.setIfInBounds_toArray, List.set_cons_zero, List.set_cons_succ])
                refine wpAnyH_ready (rs := [25]) (by kernel_rfl) (by simp) ?_
                refine AllReadyH.cons (o := { dst := none, op := Go.Op.store 56 (Go.Operand.tmp 90) (Go.Operand.tmp 89), type := 0, pos := "ref.go:425", after := #[{ on := 24, ground := Go.Ground.data }, { on := 23, ground := Go.Ground.data }, { on := 23, ground := Go.Ground.chain }, { on := 0, ground := Go.Ground.phase }, { on := 1, ground := Go.Ground.phase }, { on := 2, ground := Go.Ground.phase }, { on := 3, ground := Go.Ground.phase }, { on := 4, ground := Go.Ground.phase }, { on := 5, ground := Go.Ground.phase }, { on := 6, ground := Go.Ground.phase }, { on := 7, ground := Go.Ground.phase }, { on := 8, ground := Go.Ground.phase }, { on := 9, ground := Go.Ground.phase }, { on := 10, ground := Go.Ground.phase }, { on := 11, ground := Go.Ground.phase }, { on := 12, ground := Go.Ground.phase }, { on := 13, ground := Go.Ground.phase }, { on := 14, ground := Go.Ground.phase }, { on := 15, ground := Go.Ground.phase }, { on := 16, ground := Go.Ground.phase }, { on := 17, ground := Go.Ground.phase }, { on := 18, ground := Go.Ground.phase }, { on := 19, ground := Go.Ground.phase }, { on := 20, ground := Go.Ground.phase }, { on := 21, ground := Go.Ground.phase }, { on := 22, ground := Go.Ground.phase }, { on := 23, ground := Go.Ground.phase }], guard := none }) rfl (fun K hK => ?_) AllReadyH.nil
                go_simp
                refine hK.out _ _ (by first | with_reducible exact KEEPS.out _ hbX | with_reducible exact KEEPS.out _ hbA | with_reducible exact (KEEPG.out _ _ hbA hg6).1 | with_reducible exact (KEEPG.out _ _ hbA hg6).2 _) (fun hHeld6 => ?_)
                clear hK K hHeld5
                (try simp only [Act.put, List.setIfInBounds_toArray, List.set_cons_zero, List.set_cons_succ])
                refine wpAnyH_done (by kernel_rfl) ?_ _
                go_wp2
                go_roundw
                case rel => exact ⟨k + 1, _, by omega, by go_num, by rw [HX.out, ← List.append_assoc, HXT.out]; rw [show ([⟨pntN n + 1, parT, nm ++ ⟨#[58, 32]⟩ ++ tx⟩] : List Node) = [pN n nm tx] from rfl, HLL.out]; exact hA6, hq6.1.frame fctS (fun b' hb' => Below.heap_setCell _ _ _ _ (by have := hb'.1; have := HPW.out; show b' ≠ go; omega)), by simpa [World.setCell] using hq6.2.1, hq6.2.2⟩
                case measure => simp [intOf]; omega
        · have HE := Lib.hid (show (qs.take k).map (rparN c lang n) = qs.map (rparN c lang n) by rw [List.take_of_length_le (by omega)])
          rw [HE.out, ← HQS.out] at hsec
          obtain ⟨c2, -, gl⟩ := hsec.cells
          have c0 : wr.cell? ⟨go, 0, none⟩ = some (.int .i64 s.unit) := by rw [Lib.cell_of_heap hsec.blk]; rfl
          have c1 : wr.cell? ⟨go, 1, none⟩ = some (.string n) := by rw [Lib.cell_of_heap hsec.blk]; rfl
          have hrow := hsec.row
          have hbl := hsec.below
          have e0 : wr.cell? ⟨w.heap.size + 1, 0, none⟩ = some (.int .i64 0) := by rw [Lib.cell_of_heap hsec.rb]; rfl
          have e1 : wr.cell? ⟨w.heap.size + 1, 1, none⟩ = some (.string ⟨#[]⟩) := by rw [Lib.cell_of_heap hsec.rb]; rfl
          have e2 : wr.cell? ⟨w.heap.size + 1, 2, none⟩ = some (.slice none 0 0) := by rw [Lib.cell_of_heap hsec.rb]; rfl
          have f0 : wr.frozen? ⟨w.heap.size + 1, 0, none⟩ = false := Lib.frozen_of_heap hsec.rb 0
          have f1 : wr.frozen? ⟨w.heap.size + 1, 1, none⟩ = false := Lib.frozen_of_heap hsec.rb 1
          have f2 : wr.frozen? ⟨w.heap.size + 1, 2, none⟩ = false := Lib.frozen_of_heap hsec.rb 2
          have hl0 := heap_lt hsec.rb
          obtain ⟨AN, cN, rfl, -⟩ := id (hrow.toSl nodS)
          have HRW := Lib.hid (fun (a b c : Value) => (hrow.keep (w' := ((wr.setCell ⟨w.heap.size + 1, 0, none⟩ a).setCell ⟨w.heap.size + 1, 1, none⟩ b).setCell ⟨w.heap.size + 1, 2, none⟩ c) (fun b' hb' => by
            have hne : b' ≠ w.heap.size + 1 := by have := (hrow.own_lt b' hb').1; omega
            rw [Below.heap_setCell _ _ _ _ hne, Below.heap_setCell _ _ _ _ hne, Below.heap_setCell _ _ _ _ hne])).base_le (Nat.le_add_right _ 3))
          clear hsec hrow
          go_wp2
          refine bodyPost_ret (v := .agg #[.int .i64 s.unit, .string n, .slice AN (rsecF c lang s n).nodes.length cN]) (by simp [results, Tryz.results41, go_sem, e0, e1, e2]) rfl ⟨_, rfl, HRW.out _ _ _, ((hbl.setCell (by show w.heap.size ≤ w.heap.size + 1; omega) _).setCell (by show w.heap.size ≤ w.heap.size + 1; omega) _).setCell (by show w.heap.size ≤ w.heap.size + 1; omega) _⟩


/-- what the reference's Compile works on -/
structure RcpAt (w0 : World) (u : Int) (lang : ByteArray) (v1 v2 v3 : Value) (ga : Nat) (l : List Sect) (v : Value) (W : World) : Prop where
  ab : W.heap[ga]? = some (aidO u lang v)
  cb : W.heap[w0.heap.size]? = some (catC v1 v2 v3)
  rb : W.heap[w0.heap.size + 1]? = some aidZ
  row : OwnRep 3 (lowR (ga + 1)) 70 (ga + 1) W l v
  la : w0.heap.size + 2 ≤ ga
  below : Below w0.heap.size w0 W
section
variable {w0 W W' : World} {u : Int} {lang : ByteArray} {v1 v2 v3 : Value} {ga : Nat} {l : List Sect} {v : Value}
theorem RcpAt.call (h : RcpAt w0 u lang v1 v2 v3 ga l v W) (hb : Below W.heap.size W W') : RcpAt w0 u lang v1 v2 v3 ga l v W' :=
  ⟨(hb.block _ (heap_lt h.ab)).trans h.ab, (hb.block _ (heap_lt h.cb)).trans h.cb, (hb.block _ (heap_lt h.rb)).trans h.rb, h.row.low hb.size (fun b hb' _ => hb.block b hb') (Nat.le_refl _), h.la, h.below.trans (hb.mono h.below.size)⟩
theorem RcpAt.start (h : EntW w0 v1 v2 v3 W) : RcpAt w0 u lang v1 v2 v3 W.heap.size [] (.slice none 0 0) (W.alloc (aidO u lang (.slice none 0 0))) :=
  ⟨heap_newL W _, (Below.heap_alloc _ _ _ (heap_lt h.cb)).trans h.cb, (Below.heap_alloc _ _ _ (heap_lt h.rb)).trans h.rb, OwnRep.nil_, h.size, h.below.alloc h.below.size _⟩
theorem RcpAt.cells (h : RcpAt w0 u lang v1 v2 v3 ga l v W) : W.cell? ⟨w0.heap.size, 0, none⟩ = some v1 ∧ W.cell? ⟨w0.heap.size, 1, none⟩ = some v2 ∧ W.cell? ⟨w0.heap.size, 2, none⟩ = some v3 ∧ W.cell? ⟨ga, 2, none⟩ = some v ∧ w0.heap.size < W.heap.size ∧ ga < W.heap.size :=
  ⟨by rw [Lib.cell_of_heap h.cb]; rfl, by rw [Lib.cell_of_heap h.cb]; rfl, by rw [Lib.cell_of_heap h.cb]; rfl, by rw [Lib.cell_of_heap h.ab]; rfl, heap_lt h.cb, heap_lt h.ab⟩
theorem RcpAt.app {x : Sect} {v' : Value} {w6 : World} (h : RcpAt w0 u lang v1 v2 v3 ga l v W) (hown : OwnRep 3 (lowR (ga + 1)) 70 (ga + 1) w6 (l ++ [x]) v') (hg : W.grownBy w6 v.ownBlock) :
    RcpAt w0 u lang v1 v2 v3 ga (l ++ [x]) v' (w6.setCell ⟨ga, 2, none⟩ v') ∧ w6.frozen? ⟨ga, 2, none⟩ = false ∧ w6.cell? ⟨ga, 2, none⟩ = some v := by
  have hlt := h.row.own_lt
  have hla := h.la
  have hgl := heap_lt h.ab
  have keep : ∀ b, b < ga + 1 → w6.heap[b]? = W.heap[b]? := fun b hb => hg.block b (by omega) (fun e => by have := (hlt b e.symm).1; omega)
  have keep2 : ∀ b, b < ga → (w6.setCell ⟨ga, 2, none⟩ v').heap[b]? = W.heap[b]? := fun b hb => by
    rw [Below.heap_setCell _ _ _ _ (by show b ≠ ga; omega)]
    exact keep b (by omega)
  have h6 : w6.heap[ga]? = some (aidO u lang v) := (keep ga (by omega)).trans h.ab
  refine ⟨⟨by simp [World.setCell, Array.getElem?_modify, h6], (keep2 _ (by omega)).trans h.cb, (keep2 _ (by omega)).trans h.rb, hown.low (by simp [World.setCell]) (fun b _ hm => Below.heap_setCell _ _ _ _ (by show b ≠ ga; omega)) (Nat.le_refl _), hla, (h.below.grown hg h.below.size (fun k hk => by have := (hlt k hk).1; omega)).setCell (by show w0.heap.size ≤ ga; omega) _⟩, Lib.frozen_of_heap h6 2, by rw [Lib.cell_of_heap h6]; rfl⟩
end
theorem rnumL_snoc (l : List Sheet) (root : Int) (s : Sheet) : ∀ (r : List Sheet) (a : Nat), rnumL l root a (r ++ [s]) = rnumL l root a r ++ (if inB (chainF l ((a + r.length : Nat) : Int)) root = true then [(s, rnumF l root (a + r.length))] else [])
  | [], a => by
    show rnumL l root a [s] = [] ++ _
    rw [rnumL]
    simp only [List.nil_append, List.length_nil, Nat.add_zero]
    split <;> simp [rnumL]
  | x :: r, a => by
    show rnumL l root a (x :: (r ++ [s])) = _
    rw [rnumL, rnumL, rnumL_snoc l root s r (a + 1), List.length_cons, show a + 1 + r.length = a + (r.length + 1) by omega]
    split <;> simp
theorem rnumL_len (l : List Sheet) (root : Int) : ∀ (r : List Sheet) (a : Nat), (rnumL l root a r).length ≤ r.length
  | [], _ => Nat.le_refl _
  | x :: r, a => by
    rw [rnumL]
    have := rnumL_len l root r (a + 1)
    split <;> simp <;> omega
/-- the sections of the first k sheets -/
def rsecL (c : Cat) (root : Int) (lang : ByteArray) (k : Nat) : List Sect := secL c (prefP c.langs lang) (rnumL c.sheets root 0 (c.sheets.take k))
theorem rsecL_yes {c : Cat} {root : Int} {lang : ByteArray} {k : Nat} {s : Sheet} (hs : c.sheets[k]? = some s) (h : inB (chainF c.sheets (k : Int)) root = true) : rsecL c root lang (k + 1) = rsecL c root lang k ++ [secF c (prefP c.langs lang) s (rnumF c.sheets root k)] := by
  have hk := lt_of_at hs
  unfold rsecL
  rw [take_at hs, rnumL_snoc, List.length_take, Nat.min_eq_left (Nat.le_of_lt hk), Nat.zero_add, if_pos h, secL_snoc]
theorem rsecL_no {c : Cat} {root : Int} {lang : ByteArray} {k : Nat} {s : Sheet} (hs : c.sheets[k]? = some s) (h : inB (chainF c.sheets (k : Int)) root = false) : rsecL c root lang (k + 1) = rsecL c root lang k := by
  have hk := lt_of_at hs
  unfold rsecL
  rw [take_at hs, rnumL_snoc, List.length_take, Nat.min_eq_left (Nat.le_of_lt hk), Nat.zero_add, if_neg (by rw [h]; simp), List.append_nil]
theorem rsecL_len (c : Cat) (root : Int) (lang : ByteArray) (k : Nat) : (rsecL c root lang k).length ≤ k := by
  unfold rsecL secL
  rw [List.length_map]
  exact Nat.le_trans (rnumL_len _ _ _ _) (List.length_take_le _ _)
theorem rsecL_all {c : Cat} (T : Tree c.sheets) (root : Int) (lang : ByteArray) {k : Nat} (hk : c.sheets.length ≤ k) : rsecL c root lang k = aidL c root lang := by
  unfold rsecL aidL
  rw [List.take_of_length_le hk, secnF_eq T]
set_option maxRecDepth 100000 in
set_option maxHeartbeats 8000000 in
theorem rCompile_c (c : Cat) (u : Int) (s : ByteArray) (v1 v2 v3 : Value) (w : World) (B : Nat) (hB : B ≤ w.heap.size) (h : CatRep w B c v1 v2 v3) (hl : c.sheets.length ≤ 1000) (hl2 : c.langs.length ≤ 1000) (h14 : catE c = 0 → c.sheets.length ≤ 14) :
    Calls Tryz.prog 10 #[.agg #[v1, v2, v3], .int .i64 u, .string s] w fun e w' => ∃ vs, e = .returned (.tuple #[.agg #[.int .i64 (aidU c u s), .string (aidS c u s), vs], .int .i64 (cmpE c u s)]) ∧ SlRep 3 secR w' (fun b => b < w'.heap.size) (aidF c u s) vs ∧ Below w.heap.size w w' := by
  have HC := Lib.hid (fun (W : World) (hW : Below w.heap.size w W) => rcheck47_c c v1 v2 v3 W B (Nat.le_trans hB hW.size) (h.below (hW.mono hB)) hl)
  have hrep := h
  by_cases h1 : catE c = 0
  · have h0 := Lib.hid h1
    rw [h1] at HC
    have HHA := Lib.hid (fun (W : World) (hW : Below w.heap.size w W) => rhas_c c.langs s v1 W (fun b => b < B) (fun b hb => by have : b < B := hb; have := hW.size; omega) (h.langs.below strS (hW.mono hB)))
    have HFI := Lib.hid (fun (W : World) (hW : Below w.heap.size w W) => rindex_c c c.sheets.length u v1 v2 v3 W B (Nat.le_trans hB hW.size) (h.sheets.below shtS (hW.mono hB)) (Nat.le_refl _))
    rw [List.take_length] at HFI
    obtain ⟨A1, ca1, rfl, -⟩ := id h.langs
    obtain ⟨A2, ca2, rfl, -⟩ := id h.labels
    obtain ⟨A3, ca3, rfl, hc1, hc2, _⟩ := id h.sheets
    cases hs : hasS c.langs s
    · have HE := Lib.hid (aid_err (show cmpE c u s = 10 by unfold cmpE; rw [if_neg (by simp [h1]), if_pos hs]) (by decide))
      rw [hs] at HHA
      clear h1 hs
      go_enter Tryz.func10, Tryz.ntmps10
      go_wp2_with fail
      have hE0 := EntW.make w (.slice A1 c.langs.length ca1) (.slice A2 c.labels.length ca2) (.slice A3 c.sheets.length ca3)
      refine (HC.out _ hE0.below).mono ?_
      rintro e w1 ⟨rfl, hb1⟩
      have hE1 := hE0.call hb1
      obtain ⟨z0, z1, z2, zl⟩ := hE1.cells
      clear hE0
      go_wp2_with fail
      refine (HHA.out _ hE1.below).mono ?_
      rintro e w2 ⟨rfl, rfl⟩
      clear z0 z1 z2 zl
      obtain ⟨⟨e0, e1, e2⟩, ⟨f0, f1, f2⟩, hl0⟩ := hE1.res
      have HBL := Lib.hid hE1.below
      clear hE1
      go_wp2
      refine bodyPost_ret (v := .tuple #[zAid, .int .i64 10]) (by simp [results, Tryz.results10, go_sem, zAid, e0, e1, e2]) rfl ⟨.slice none 0 0, by rw [HE.out.1], by rw [HE.out.2]; exact SlRep.nil_', ((HBL.out.setCell (by show w.heap.size ≤ w.heap.size + 1; omega) _).setCell (by show w.heap.size ≤ w.heap.size + 1; omega) _).setCell (by show w.heap.size ≤ w.heap.size + 1; omega) _⟩
    · rw [hs] at HHA
      rcases idxF_cases (fun x : Sheet => decide (x.unit = u)) c.sheets with ⟨hi, -⟩ | ⟨k, x, hi, -, -, -⟩
      · have hi' : shtIx c.sheets u = -1 := hi
        have HE := Lib.hid (aid_err (show cmpE c u s = 7 by unfold cmpE; rw [if_neg (by simp [h1]), if_neg (by rw [hs]; simp), if_pos (by omega)]) (by decide))
        rw [hi'] at HFI
        clear h1 hs hi hi'
        go_enter Tryz.func10, Tryz.ntmps10
        go_wp2_with fail
        have hE0 := EntW.make w (.slice A1 c.langs.length ca1) (.slice A2 c.labels.length ca2) (.slice A3 c.sheets.length ca3)
        refine (HC.out _ hE0.below).mono ?_
        rintro e w1 ⟨rfl, hb1⟩
        have hE1 := hE0.call hb1
        obtain ⟨z0, z1, z2, zl⟩ := hE1.cells
        clear hE0
        go_wp2_with fail
        refine (HHA.out _ hE1.below).mono ?_
        rintro e w2 ⟨rfl, rfl⟩
        go_wp2_with fail
        refine (HFI.out _ hE1.below).mono ?_
        rintro e w3 ⟨rfl, hb3⟩
        have hE3 := hE1.call hb3
        clear z0 z1 z2 zl hE1
        obtain ⟨⟨e0, e1, e2⟩, ⟨f0, f1, f2⟩, hl0⟩ := hE3.res
        have HBL := Lib.hid hE3.below
        clear hE3
        go_wp2
        refine bodyPost_ret (v := .tuple #[zAid, .int .i64 7]) (by simp [results, Tryz.results10, go_sem, zAid, e0, e1, e2]) rfl ⟨.slice none 0 0, by rw [HE.out.1], by rw [HE.out.2]; exact SlRep.nil_', ((HBL.out.setCell (by show w.heap.size ≤ w.heap.size + 1; omega) _).setCell (by show w.heap.size ≤ w.heap.size + 1; omega) _).setCell (by show w.heap.size ≤ w.heap.size + 1; omega) _⟩
      · have hi' : shtIx c.sheets u = (k : Int) := hi
        have hcm : cmpE c u s = 0 := by unfold cmpE; rw [if_neg (by simp [h1]), if_neg (by rw [hs]; simp), if_neg (by omega)]
        have HE := Lib.hid (show aidU c u s = u ∧ aidS c u s = s ∧ aidF c u s = aidL c u s ∧ cmpE c u s = 0 by unfold aidU aidS aidF; rw [if_pos hcm, if_pos hcm, if_pos hcm]; exact ⟨rfl, rfl, rfl, hcm⟩)
        have HSL := Lib.hid hs
        have hki : decide ((k : Int) < 0) = false := by simp
        rw [hi'] at HFI
        have hl14 := h14 h1
        have T := Cat.tree h1
        have HALL := Lib.hid (fun (j : Nat) (hj : c.sheets.length ≤ j) => rsecL_all T u s hj)
        have HCH := Lib.hid (fun (j : Int) (hj : j < c.sheets.length) (W : World) (hW : Below w.heap.size w W) => rchain_c c j (.slice A1 c.langs.length ca1) (.slice A2 c.labels.length ca2) (.slice A3 c.sheets.length ca3) W B (Nat.le_trans hB hW.size) (h.below (hW.mono hB)) hj hl)
        clear h1 hs hi hi' hcm T
        go_enter Tryz.func10, Tryz.ntmps10
        go_wp2_with fail
        have hE0 := EntW.make w (.slice A1 c.langs.length ca1) (.slice A2 c.labels.length ca2) (.slice A3 c.sheets.length ca3)
        refine (HC.out _ hE0.below).mono ?_
        rintro e w1 ⟨rfl, hb1⟩
        have hE1 := hE0.call hb1
        obtain ⟨z0, z1, z2, zl⟩ := hE1.cells
        clear hE0
        go_wp2_with fail
        refine (HHA.out _ hE1.below).mono ?_
        rintro e w2 ⟨rfl, rfl⟩
        go_wp2_with fail
        refine (HFI.out _ hE1.below).mono ?_
        rintro e w3 ⟨rfl, hb3⟩
        have hE3 := hE1.call hb3
        clear z0 z1 z2 zl hE1
        obtain ⟨z0, z1, z2, zl⟩ := hE3.cells
        have HR0 := Lib.hid (RcpAt.start (u := u) (lang := s) hE3)
        obtain ⟨ga, HGA⟩ : ∃ ga : Nat, ga = w3.heap.size := ⟨_, rfl⟩
        have HG := Lib.hid HGA
        go_wp2
        rw [← HG.out] at HR0 ⊢
        clear HGA hE3 z0 z1 z2 zl
        go_loopw [9] (fun vi wr => ∃ (j : Nat) (v : Value), j ≤ c.sheets.length ∧ vi = .int .i64 j ∧ Hid (RcpAt w u s (.slice A1 c.langs.length ca1) (.slice A2 c.labels.length ca2) (.slice A3 c.sheets.length ca3) ga (rsecL c u s j) v wr)) (fun vi _ => c.sheets.length - (intOf vi).toNat)
        case atStart => exact ⟨0, _, Nat.zero_le _, rfl, HR0⟩
        case round =>
          clear HR0
          obtain ⟨j, v, hj, rfl, HR⟩ := hrel
          obtain ⟨z0, z1, z2, z3, zl, zg⟩ := HR.out.cells
          have hB1 := HR.out.below
          by_cases hlt : j < c.sheets.length
          · obtain ⟨x, hx⟩ := get_at c.sheets hlt
            have hji : (j : Int) < (c.sheets.length : Int) := by omega
            have hwj : IntKind.i64.wrap ((j : Int) + 1) = (j : Int) + 1 := IntWalk.i64_in _ (by omega)
            cases hin : inB (chainF c.sheets (j : Int)) u
            · have HN := Lib.hid (rsecL_no (lang := s) hx hin)
              have HIN := Lib.hid hin
              clear hx hin
              go_wp2_with fail
              refine (HCH.out (j : Int) hji _ hB1).mono ?_
              rintro e wC ⟨vC, rfl, hownC, hbC⟩
              have HR2 := Lib.hid (HR.out.call hbC)
              have hch := hownC.toSl intS
              obtain ⟨AC, cC, rfl, -⟩ := id hch
              clear z0 z1 z2 z3 zl zg
              go_wp2_with fail
              refine (rin_c (chainF c.sheets (j : Int)) u _ _ (fun b => b < wC.heap.size) (fun _ h => h) hch).mono ?_
              rintro e w5 ⟨he, rfl⟩
              rw [HIN.out] at he
              subst he
              clear hownC hbC hch
              go_wp2
              go_roundw
              case rel => exact ⟨j + 1, v, by omega, by go_num, by rw [HN.out]; exact HR2⟩
              case measure => simp [intOf]; omega
            · have HN := Lib.hid (rsecL_yes (lang := s) hx hin)
              have HIN := Lib.hid hin
              have HSE := Lib.hid (fun (W : World) (hW : Below w.heap.size w W) => ((rsection_c c x u j s (.slice A1 c.langs.length ca1) (.slice A2 c.labels.length ca2) (.slice A3 c.sheets.length ca3) W B (Nat.le_trans hB hW.size) (hrep.below (hW.mono hB)) h0.out hx (inB_iff.1 hin) hl14 hl2).mono (fun e w' ⟨vN, k1, k2, k3⟩ => ⟨vN, k1, by rw [← rsec_eq h0.out HSL.out (List.mem_of_getElem? hx)]; exact k2, k3⟩) : Calls Tryz.prog 41 #[.agg #[.slice A1 c.langs.length ca1, .slice A2 c.labels.length ca2, .slice A3 c.sheets.length ca3], .int .i64 u, .int .i64 j, .string s] W fun e w' => ∃ vN, e = .returned (.agg #[.int .i64 x.unit, .string (rnumF c.sheets u j), vN]) ∧ OwnRep 3 (flat Node.enc) 61 W.heap.size w' (secF c (prefP c.langs s) x (rnumF c.sheets u j)).nodes vN ∧ Below W.heap.size W w'))
              have hlen := rsecL_len c u s j
              generalize rnumF c.sheets u j = n at *
              have kN : (rsecL c u s j).length + [secF c (prefP c.langs s) x n].length ≤ 4294967296 := by simp; omega
              have HLL := HN
              obtain ⟨LL, hLL⟩ : ∃ LL, rsecL c u s (j + 1) = LL := ⟨_, rfl⟩
              rw [hLL] at HN
              have HJ := Lib.hid hLL
              clear hx hin hLL HLL
              go_wp2_with fail
              refine (HCH.out (j : Int) hji _ hB1).mono ?_
              rintro e wC ⟨vC, rfl, hownC, hbC⟩
              have HR2 := Lib.hid (HR.out.call hbC)
              have hch := hownC.toSl intS
              obtain ⟨AC, cC, rfl, -⟩ := id hch
              clear z0 z1 z2 z3 zl zg
              go_wp2_with fail
              refine (rin_c (chainF c.sheets (j : Int)) u _ _ (fun b => b < wC.heap.size) (fun _ h => h) hch).mono ?_
              rintro e w5 ⟨he, rfl⟩
              rw [HIN.out] at he
              subst he
              clear hownC hbC hch
              have HVL := Lib.hid (show ∀ b, v.ownBlock = some b → b < wC.drew.heap.size from fun b hb => (HR2.out.row.own_lt b hb).2)
              have HZ := Lib.hid (show ga + 1 ≤ wC.drew.heap.size from heap_lt HR2.out.ab)
              have hbX : Below wC.heap.size wC wC.drew := (Below.refl _ _).drew
              obtain ⟨z0, z1, z2, z3, zl, zg⟩ := (HR2.out.call hbX).cells
              have BW := Lib.hid (fun (W : World) (hW : Below wC.heap.size wC W) => (HR2.out.below.trans (hW.mono HR2.out.below.size) : Below w.heap.size w W))
              have HFIN := Lib.hid (fun (W w6 : World) (v6 : Value) (hW : Below wC.heap.size wC W) (hg : W.grownBy w6 v.ownBlock) (hown : OwnRep 3 (lowR (ga + 1)) 70 (ga + 1) w6 (rsecL c u s j ++ [secF c (prefP c.langs s) x n]) v6) => (by
                have := (HR2.out.call hW).app hown hg
                rw [← HN.out] at this
                exact this : RcpAt w u s (.slice A1 c.langs.length ca1) (.slice A2 c.labels.length ca2) (.slice A3 c.sheets.length ca3) ga LL v6 (w6.setCell ⟨ga, 2, none⟩ v6) ∧ w6.frozen? ⟨ga, 2, none⟩ = false ∧ w6.cell? ⟨ga, 2, none⟩ = some v))
              go_wp2
              go_region_law (first
                | (refine step_append_rep rfl (lowS (ga + 1)) secE_ _ (.tmp 44) (.tmp 50) rfl rfl kO rfl (ys := [secF c (prefP c.langs s) x n]) kS kF kN (by decide) kB ?_; intro v6 w6 hown6 hg6 hat6; have hA6 := HFIN.out _ w6 v6 hbA hg6 hown6; have hz6 := hA6.2.1; have hc6 := hA6.2.2; rw [← HN.out] at hown6; obtain ⟨A6, c6, rfl, -⟩ := id (hown6.toSl (lowS (ga + 1))))
                | (go_simp; go_at_call 41; (with_reducible refine (HSE.out _ (BW.out _ hbX)).mono ?_); rintro e w3' ⟨vN, rfl, hownN, hb3⟩; have hbX' := hbX.trans (hb3.mono hbX.size); obtain ⟨AN, cN, rfl, -⟩ := id (hownN.toSl nodS); have hbA := hbX'.alloc hbX'.size (secC x n (.slice AN (secF c (prefP c.langs s) x n).nodes.length cN)); have kO := (HR2.out.call hbA).row; have kB := Nat.le_trans HZ.out hbA.size; have kS := sec_lay (m := ga + 1) hownN HVL.out HZ.out; have kF := sec_off (o := secC x n (.slice AN (secF c (prefP c.langs s) x n).nodes.length cN)) HVL.out hb3.size; have r0 := (HR2.out.call hbX').cells.2.2.2.1; have r1 := (HR2.out.call hbA).cells.2.2.2.1))
              all_goals (go_wp2; go_roundw)
              all_goals first
                | exact ⟨j + 1, _, by omega, by go_num, by rw [HJ.out]; exact Lib.hid hA6.1⟩
                | (simp [intOf]; omega)
          · have HLA := Lib.hid (HALL.out j (by omega))
            have hc5 := HR.out
            rw [HLA.out] at hc5
            have hjd : ¬ (j : Int) < (c.sheets.length : Int) := by omega
            have a0 : wr.cell? ⟨ga, 0, none⟩ = some (.int .i64 u) := by rw [Lib.cell_of_heap hc5.ab]; rfl
            have a1 : wr.cell? ⟨ga, 1, none⟩ = some (.string s) := by rw [Lib.cell_of_heap hc5.ab]; rfl
            have hrow := row_sec hc5.row (Nat.le_refl _)
            obtain ⟨A5, c5, rfl, -⟩ := id hrow
            have e0 : wr.cell? ⟨w.heap.size + 1, 0, none⟩ = some (.int .i64 0) := by rw [Lib.cell_of_heap hc5.rb]; rfl
            have e1 : wr.cell? ⟨w.heap.size + 1, 1, none⟩ = some (.string ⟨#[]⟩) := by rw [Lib.cell_of_heap hc5.rb]; rfl
            have e2 : wr.cell? ⟨w.heap.size + 1, 2, none⟩ = some (.slice none 0 0) := by rw [Lib.cell_of_heap hc5.rb]; rfl
            have f0 : wr.frozen? ⟨w.heap.size + 1, 0, none⟩ = false := Lib.frozen_of_heap hc5.rb 0
            have f1 : wr.frozen? ⟨w.heap.size + 1, 1, none⟩ = false := Lib.frozen_of_heap hc5.rb 1
            have f2 : wr.frozen? ⟨w.heap.size + 1, 2, none⟩ = false := Lib.frozen_of_heap hc5.rb 2
            have hl0 := heap_lt hc5.rb
            have hla := hc5.la
            have HBL := Lib.hid hc5.below
            have HRW := Lib.hid (fun (a b d : Value) => (hrow.frame (w' := ((wr.setCell ⟨w.heap.size + 1, 0, none⟩ a).setCell ⟨w.heap.size + 1, 1, none⟩ b).setCell ⟨w.heap.size + 1, 2, none⟩ d) secS (fun b' hb' => by
              have hne : b' ≠ w.heap.size + 1 := by have := hb'.1; omega
              rw [Below.heap_setCell _ _ _ _ hne, Below.heap_setCell _ _ _ _ hne, Below.heap_setCell _ _ _ _ hne])).monoF secS (F' := fun b' => b' < (((wr.setCell ⟨w.heap.size + 1, 0, none⟩ a).setCell ⟨w.heap.size + 1, 1, none⟩ b).setCell ⟨w.heap.size + 1, 2, none⟩ d).heap.size) (fun b' hb' => by simpa [World.setCell] using hb'.2))
            obtain ⟨HE1, HE2, HE3, HE4⟩ := HE.out
            have HV := Lib.hid (show Value.tuple #[.agg #[.int .i64 u, .string s, .slice A5 (aidL c u s).length c5], .int .i64 0] = Value.tuple #[.agg #[.int .i64 (aidU c u s), .string (aidS c u s), .slice A5 (aidL c u s).length c5], .int .i64 (cmpE c u s)] by rw [HE1, HE2, HE4])
            have HF := Lib.hid (show aidF c u s = aidL c u s from HE3)
            clear HE1 HE2 HE3 HE4 hrow hc5 z0 z1 HR HLA
            go_wp2
            refine bodyPost_ret (v := .tuple #[.agg #[.int .i64 u, .string s, .slice A5 (aidL c u s).length c5], .int .i64 0]) (by simp [results, Tryz.results10, go_sem, e0, e1, e2]) rfl ⟨_, by rw [HV.out], by rw [HF.out]; exact HRW.out _ _ _, ((HBL.out.setCell (by show w.heap.size ≤ w.heap.size + 1; omega) _).setCell (by show w.heap.size ≤ w.heap.size + 1; omega) _).setCell (by show w.heap.size ≤ w.heap.size + 1; omega) _⟩
  · have HE := Lib.hid (aid_err (show cmpE c u s = 1 by unfold cmpE; rw [if_pos h1]) (by decide))
    obtain ⟨n1, n2⟩ := ne_bool h1
    clear h1
    go_enter Tryz.func10, Tryz.ntmps10
    go_wp2_with fail
    have hE0 := EntW.make w v1 v2 v3
    refine (HC.out _ hE0.below).mono ?_
    rintro e w1 ⟨rfl, hb1⟩
    have hE1 := hE0.call hb1
    clear hE0
    obtain ⟨⟨e0, e1, e2⟩, ⟨f0, f1, f2⟩, hl0⟩ := hE1.res
    have HBL := Lib.hid hE1.below
    clear hE1
    go_wp2
    refine bodyPost_ret (v := .tuple #[zAid, .int .i64 1]) (by simp [results, Tryz.results10, go_sem, zAid, e0, e1, e2]) rfl ⟨.slice none 0 0, by rw [HE.out.1], by rw [HE.out.2]; exact SlRep.nil_', ((HBL.out.setCell (by show w.heap.size ≤ w.heap.size + 1; omega) _).setCell (by show w.heap.size ≤ w.heap.size + 1; omega) _).setCell (by show w.heap.size ≤ w.heap.size + 1; omega) _⟩
end Go.Proofs.YtbmlnflacdockaaGreatDoor
