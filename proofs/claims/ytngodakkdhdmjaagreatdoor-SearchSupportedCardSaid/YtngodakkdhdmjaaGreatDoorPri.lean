/- The program: Check. The program: speaks, prefer. The program: choose. Chapter 47 in plain words: languages stand once; the preference, as the program makes it, is the one that is said. What a right catalog is made of. The program: Choose. -/
import Derived.Test.YtngodakkdhdmjaaGreatDoorPrC
import Derived.Test.YtngodakkdhdmjaaGreatDoorBas
import Derived.Laws.CopyOwn
namespace Go.Proofs.YtngodakkdhdmjaaGreatDoor
section
open Go.RowKit

theorem ne_bool {a : Int} (h : a ≠ 0) : (a != 0) = true ∧ (a == 0) = false := ⟨by simpa using h, by simpa using h⟩
set_option maxHeartbeats 4000000 in
theorem Check_c (c : Cat) (v1 v2 v3 : Value) (w : World) (B : Nat) (hB : B ≤ w.heap.size) (h : CatRep w B c v1 v2 v3) :
    Calls Tryz.prog 60 #[.agg #[v1, v2, v3]] w fun e w' => e = .returned (.int .i64 (catE c)) ∧ Below w.heap.size w w' := by
  have b1 : Below w.heap.size w (w.alloc (catC v1 v2 v3)) := (Below.refl _ _).alloc (Nat.le_refl _) _
  have KC := Lib.hid (fun (W : World) (hW : Below (w.heap.size + 1) (w.alloc (catC v1 v2 v3)) W) => (⟨(hW.cell (p := ⟨w.heap.size, 0, none⟩) (by simp)).trans (by simp), (hW.cell (p := ⟨w.heap.size, 1, none⟩) (by simp)).trans (by simp), (hW.cell (p := ⟨w.heap.size, 2, none⟩) (by simp)).trans (by simp), by have := hW.size; simp at this; omega⟩ : W.cell? ⟨w.heap.size, 0, none⟩ = some v1 ∧ W.cell? ⟨w.heap.size, 1, none⟩ = some v2 ∧ W.cell? ⟨w.heap.size, 2, none⟩ = some v3 ∧ w.heap.size < W.heap.size))
  have HL := Lib.hid (fun (W : World) (hW : Below w.heap.size w W) => languages_c c v1 v2 v3 W B (Nat.le_trans hB hW.size) (h.below (hW.mono hB)))
  have HB := Lib.hid (fun (W : World) (hW : Below w.heap.size w W) => labels_c c v1 v2 v3 W B (Nat.le_trans hB hW.size) (h.below (hW.mono hB)))
  have HS := Lib.hid (fun (W : World) (hW : Below w.heap.size w W) => sheets_c c v1 v2 v3 W B (Nat.le_trans hB hW.size) (h.below (hW.mono hB)))
  have hb0 : Below (w.heap.size + 1) (w.alloc (catC v1 v2 v3)) (w.alloc (catC v1 v2 v3)) := Below.refl _ _
  by_cases h1 : langE c.langs = 0
  · rw [h1] at HL
    by_cases h2 : labE c.langs c.labels = 0
    · have HE := Lib.hid (show catE c = shtE c.langs c.sheets by unfold catE; rw [if_neg (by simp [h1]), if_neg (by simp [h2])])
      rw [h2] at HB
      clear h1 h2
      go_enter Tryz.func60, Tryz.ntmps60
      go_wp2_with fail
      refine (HL.out _ b1).mono ?_
      rintro e w1 ⟨rfl, hb1⟩
      have hbX := bnd_call hb0 (by simp) hb1
      obtain ⟨z0, z1, z2, zl⟩ := KC.out _ hbX
      have B1 := b1.trans (hbX.mono (Nat.le_succ _))
      go_wp2_with fail
      refine (HB.out _ B1).mono ?_
      rintro e w2 ⟨rfl, hb2⟩
      have hbX := bnd_call hbX (by simp) hb2
      clear z0 z1 z2 zl
      obtain ⟨z0, z1, z2, zl⟩ := KC.out _ hbX
      have B2 := b1.trans (hbX.mono (Nat.le_succ _))
      go_wp2_with fail
      refine (HS.out _ B2).mono ?_
      rintro e w3 ⟨rfl, hb3⟩
      go_wp2
      go_ret
      exact ⟨ret_int HE.out.symm, B2.trans (hb3.mono B2.size)⟩
    · have HE := Lib.hid (show catE c = labE c.langs c.labels by unfold catE; rw [if_neg (by simp [h1]), if_pos h2])
      obtain ⟨n1, n2⟩ := ne_bool h2
      clear h1 h2
      go_enter Tryz.func60, Tryz.ntmps60
      go_wp2_with fail
      refine (HL.out _ b1).mono ?_
      rintro e w1 ⟨rfl, hb1⟩
      have hbX := bnd_call hb0 (by simp) hb1
      obtain ⟨z0, z1, z2, zl⟩ := KC.out _ hbX
      have B1 := b1.trans (hbX.mono (Nat.le_succ _))
      go_wp2_with fail
      refine (HB.out _ B1).mono ?_
      rintro e w2 ⟨rfl, hb2⟩
      go_wp2
      go_ret
      exact ⟨ret_int HE.out.symm, B1.trans (hb2.mono B1.size)⟩
  · have HE := Lib.hid (show catE c = langE c.langs by unfold catE; rw [if_pos h1])
    obtain ⟨n1, n2⟩ := ne_bool h1
    clear h1
    go_enter Tryz.func60, Tryz.ntmps60
    go_wp2_with fail
    refine (HL.out _ b1).mono ?_
    rintro e w1 ⟨rfl, hb1⟩
    go_wp2
    go_ret
    exact ⟨ret_int HE.out.symm, b1.trans (hb1.mono (by simp))⟩
end
section
open Go.RowKit

set_option maxHeartbeats 4000000 in
theorem speaks_c (c : Cat) (s : ByteArray) (v1 v2 v3 : Value) (w : World) (B : Nat) (hB : B ≤ w.heap.size) (h : CatRep w B c v1 v2 v3) :
    Calls Tryz.prog 111 #[.agg #[v1, v2, v3], .string s] w fun e w' => e = .returned (.bool (rightB c s)) ∧ Below w.heap.size w w' := by
  have b1 : Below w.heap.size w (w.alloc (catC v1 v2 v3)) := (Below.refl _ _).alloc (Nat.le_refl _) _
  have KC := Lib.hid (fun (W : World) (hW : Below (w.heap.size + 1) (w.alloc (catC v1 v2 v3)) W) => (⟨(hW.cell (p := ⟨w.heap.size, 0, none⟩) (by simp)).trans (by simp), by have := hW.size; simp at this; omega⟩ : W.cell? ⟨w.heap.size, 0, none⟩ = some v1 ∧ w.heap.size < W.heap.size))
  have HC := Lib.hid (fun (W : World) (hW : Below w.heap.size w W) => Check_c c v1 v2 v3 W B (Nat.le_trans hB hW.size) (h.below (hW.mono hB)))
  have HS := Lib.hid (fun (W : World) (hW : Below w.heap.size w W) => scontains_c s c.langs v1 W (fun b => b < B) (fun b hb => by have : b < B := hb; have := hW.size; omega) (h.langs.below strS (hW.mono hB)))
  have hb0 : Below (w.heap.size + 1) (w.alloc (catC v1 v2 v3)) (w.alloc (catC v1 v2 v3)) := Below.refl _ _
  by_cases h1 : catE c = 0
  · have HE := Lib.hid (show rightB c s = c.langs.any (fun x => decide (x = s)) by unfold rightB hasS; simp [h1])
    rw [h1] at HC
    clear h1
    go_enter Tryz.func111, Tryz.ntmps111
    go_wp2_with fail
    refine (HC.out _ b1).mono ?_
    rintro e w1 ⟨rfl, hb1⟩
    have hbX := bnd_call hb0 (by simp) hb1
    obtain ⟨z0, zl⟩ := KC.out _ hbX
    have B1 := b1.trans (hbX.mono (Nat.le_succ _))
    go_wp2_with fail
    refine (HS.out _ B1).mono ?_
    rintro e w2 ⟨rfl, rfl⟩
    go_wp2
    go_ret
    exact ⟨ret_bool HE.out.symm, B1⟩
  · have HE := Lib.hid (show rightB c s = false by unfold rightB; simp [h1])
    obtain ⟨n1, n2⟩ := ne_bool h1
    clear h1
    go_enter Tryz.func111, Tryz.ntmps111
    go_wp2_with fail
    refine (HC.out _ b1).mono ?_
    rintro e w1 ⟨rfl, hb1⟩
    go_wp2
    go_ret
    exact ⟨ret_bool HE.out.symm, b1.trans (hb1.mono (by simp))⟩
/-- the preference as the program makes it -/
def prefP (ls : List ByteArray) (s : ByteArray) : List ByteArray := s :: (ls.take (rankF ls s).toNat ++ ls.drop ((rankF ls s).toNat + 1))
theorem splice_full {α : Type} {Z cs : List α} (h : cs.length = Z.length) : splice Z 0 cs = cs := by
  unfold splice
  simp [h]
theorem madeStrs (n : Nat) : (madeCells (Value.string ⟨#[]⟩).cells (n * 1)).toList = ((List.replicate n (⟨#[]⟩ : ByteArray)).map strEnc).flatten := by
  rw [Nat.mul_one, show (Value.string ⟨#[]⟩).cells = #[.string ⟨#[]⟩] from rfl, toList_madeCells_one, List.map_replicate]
  induction n with
  | zero => rfl
  | succ n ih => rw [List.replicate_succ, List.replicate_succ, List.flatten_cons, ← ih]; rfl
theorem flatStrs (xs : List ByteArray) : (xs.map strEnc).flatten = xs.map Value.string := by
  induction xs with
  | nil => rfl
  | cons x r ih => rw [List.map_cons, List.flatten_cons, ih]; rfl
theorem add_off (b off j : Nat) : (⟨b, off, none⟩ : Addr).add j = ⟨b, off + j, none⟩ := by
  unfold Addr.add
  split
  · simp_all
  · rfl
theorem Strs.src {w : World} {F : Nat → Prop} {xs : List ByteArray} {A : Option Addr} {n c : Nat} (h : SlRep 1 (flat strEnc) w F xs (.slice A n c)) {X : List Value} (hX : X = xs.map Value.string) (h0 : 0 < X.length) : ∃ ad, A = some ad ∧ ∀ j v, X[j]? = some v → w.cell? (ad.add j) = some v := by
  subst hX
  obtain ⟨x, hx⟩ := get_at xs (show 0 < xs.length by simpa using h0)
  obtain ⟨b, off, rfl, _, _⟩ := Strs.at_ h hx
  refine ⟨_, rfl, fun j v hv => ?_⟩
  rw [List.getElem?_map] at hv
  cases hj : xs[j]? with
  | none => rw [hj] at hv; cases hv
  | some y =>
    rw [hj] at hv
    injection hv with hv
    obtain ⟨b', off', e, _, hc⟩ := Strs.at_ h hj
    injection e with e
    injection e with e1 e2
    subst e1 e2
    rw [add_off, hc, ← hv]
theorem splice_one (ls : List ByteArray) {i : Nat} (hi : i < ls.length) (f : ByteArray → Value) : splice (ls.map f) 1 ((ls.take i).map f) = (ls.take 1 ++ (ls.take i ++ ls.drop (i + 1))).map f := by
  unfold splice
  simp only [List.length_map, List.length_take, Nat.min_eq_left (Nat.le_of_lt hi), List.map_append, List.map_take, List.map_drop]
  rw [show 1 + i = i + 1 by omega]
set_option maxRecDepth 100000 in
set_option maxHeartbeats 4000000 in
theorem prefer_c (c : Cat) (s : ByteArray) (v1 v2 v3 : Value) (w : World) (B : Nat) (hB : B ≤ w.heap.size) (h : Strs w B c.langs v1) (hs : s ∈ c.langs) (h8 : c.langs.length ≤ 8) :
    Calls Tryz.prog 113 #[.agg #[v1, v2, v3], .string s] w fun e w' => ∃ v', e = .returned v' ∧ OwnRep 1 (flat strEnc) 9 w.heap.size w' (prefP c.langs s) v' ∧ Below w.heap.size w w' := by
  have b1 : Below w.heap.size w (w.alloc (catC v1 v2 v3)) := (Below.refl _ _).alloc (Nat.le_refl _) _
  have KC := Lib.hid (fun (W : World) (hW : Below (w.heap.size + 1) (w.alloc (catC v1 v2 v3)) W) => (⟨(hW.cell (p := ⟨w.heap.size, 0, none⟩) (by simp)).trans (by simp), by have := hW.size; simp at this; omega⟩ : W.cell? ⟨w.heap.size, 0, none⟩ = some v1 ∧ w.heap.size < W.heap.size))
  obtain ⟨i, hi, hil, HPP⟩ : ∃ i : Nat, rankF c.langs s = (i : Int) ∧ i < c.langs.length ∧ prefP c.langs s = s :: (c.langs.take i ++ c.langs.drop (i + 1)) := by
    have h1 := rank_nonneg hs
    have h2 := rank_lt (ord := c.langs) (x := s)
    exact ⟨(rankF c.langs s).toNat, by omega, by omega, rfl⟩
  have HI := Lib.hid hi
  have HP := Lib.hid HPP
  obtain ⟨A, ca, rfl, hc1, hc2, _⟩ := id h
  obtain ⟨ls, lb, sh⟩ := c
  simp only at h HI HP hil h8 hc1 KC b1 ⊢
  clear hi HPP hs
  obtain ⟨i0, hti, hi0, hi1, hi2⟩ := info_parts (P := Tryz.prog) (e := 9) (z := .string ⟨#[]⟩) (size := 1) (bytes := 16) (by kernel_rfl)
  have hb0 : Below (w.heap.size + 1) (w.alloc (catC (.slice A ls.length ca) v2 v3)) (w.alloc (catC (.slice A ls.length ca) v2 v3)) := Below.refl _ _
  go_enter Tryz.func113, Tryz.ntmps113
  go_wp2_with (at_make; refine stop_intro ?_)
  refine stop_elim ?_
  refine wpList_make_full _ rfl _ _ 32 rfl (w.heap.size + 1) 9 i0 (.string ⟨#[]⟩) 1 Tryz.underlying32 hti hi0 hi1 _ _ _ _ ls.length rfl rfl rfl rfl (by rw [hi2]; omega) (by unfold maxLen; omega) (by simp) ?_
  intro w5 hrow5 hg5
  have eg : (w.alloc (catC (.slice A ls.length ca) v2 v3)).heap.size = w.heap.size + 1 := by simp
  have hown5 : OwnRep 1 (flat strEnc) 9 (w.heap.size + 1) w5 (List.replicate ls.length ⟨#[]⟩) (.slice (some ⟨(w.alloc (catC (.slice A ls.length ca) v2 v3)).heap.size, 0, none⟩) ls.length ls.length) := OwnRep.of_rows (by rw [← madeStrs, List.length_replicate]; exact hrow5)
  rw [eg] at hown5 ⊢
  have hG5 := (hown5.full strS).2
  rw [flatStrs, List.map_replicate] at hG5
  have hb5 : Below (w.heap.size + 1) (w.alloc (catC (.slice A ls.length ca) v2 v3)) w5 := (Below.refl _ _).grown hg5 (by simp) (fun k hk => by cases hk)
  obtain ⟨z0, zl⟩ := KC.out _ hb5
  have hv5 : Strs w5 B ls (.slice A ls.length ca) := h.below strS ((b1.trans (hb5.mono (Nat.le_succ _))).mono hB)
  obtain ⟨X, hX⟩ : ∃ X : List Value, X = ls.map Value.string := ⟨_, rfl⟩
  have hXl : X.length = ls.length := by rw [hX, List.length_map]
  have hpos : 0 < X.length → some (⟨w.heap.size + 1, 0, none⟩ : Addr) = some ⟨w.heap.size + 1, 0, none⟩ ∧ ∃ ad, A = some ad ∧ ∀ j v, X[j]? = some v → w5.cell? (ad.add j) = some v := fun h0 => ⟨rfl, Strs.src hv5 hX h0⟩
  have hsz1 : (Tryz.prog.info? 9).map (·.size) = some 1 := by kernel_rfl
  have hone : ∀ v ∈ X, v.oneCell' = true := by
    intro v hv
    rw [hX] at hv
    obtain ⟨x, _, rfl⟩ := List.mem_map.1 hv
    rfl
  have hmin : X.length = Nat.min ls.length ls.length := by rw [hXl]; exact (Nat.min_self _).symm
  have hfit : 0 + X.length ≤ (List.replicate ls.length (Value.string ⟨#[]⟩)).length := by rw [List.length_replicate, hXl]; omega
  have HX := Lib.hid hX
  have HXL := Lib.hid hXl
  clear hX hXl hown5 hrow5 hg5 eg hti hi0 hi1 hi2
  go_wp2_with (with_reducible refine wpList_copy_splice rfl (.tmp 11) (.tmp 13) 32 32 rfl 9 Tryz.underlying32 hsz1 _ _ _ _ _ _ rfl rfl (w.heap.size + 1) 0 _ 9 hG5 X hmin hpos hfit hone (w.heap.size + 1) _ hb5 (Nat.le_refl _) ?_; intro w6 HG6 hb6)
  have hG6 := HG6.out
  rw [splice_full (by rw [HXL.out, List.length_replicate]), HX.out, ← flatStrs] at hG6
  have hs6 := hb6.size
  simp only [World.size_alloc] at hs6
  have hown6 : OwnRep 1 (flat strEnc) 9 (w.heap.size + 1) w6 ls (.slice (some ⟨w.heap.size + 1, 0, none⟩) ls.length ls.length) := OwnRep.of_full strS rfl (by unfold maxLen; omega) (Nat.le_refl _) hG6
  have HIX := Lib.hid (sindex_c s ls _ w6 (fun b => b < w6.heap.size) (fun _ h => h) (hown6.toSl strS))
  rw [show idxF (fun x => decide (x = s)) ls = (i : Int) from HI.out] at HIX
  rw [flatStrs] at hG6
  have hG7 : w6.drew.heap[w.heap.size + 1]? = some (.cells (ls.map Value.string).toArray 9 (0, 0)) := hG6
  have hb7 : Below (w.heap.size + 1) (w.alloc (catC (.slice A ls.length ca) v2 v3)) w6.drew := hb6.drew
  obtain ⟨Y, hY⟩ : ∃ Y : List Value, Y = (ls.take i).map Value.string := ⟨_, rfl⟩
  have hYl : Y.length = i := by rw [hY, List.length_map, List.length_take]; omega
  have honeY : ∀ v ∈ Y, v.oneCell' = true := by
    intro v hv
    rw [hY] at hv
    obtain ⟨x, _, rfl⟩ := List.mem_map.1 hv
    rfl
  have hminY : Y.length = Nat.min i (ls.length - 1) := by rw [hYl]; exact (Nat.min_eq_left (by omega)).symm
  have hsrcY : 0 < Y.length → ∃ ad, some (⟨w.heap.size + 1, 0, none⟩ : Addr) = some ad ∧ ∀ j v, Y[j]? = some v → w6.drew.cell? (ad.add j) = some v := fun h0 => Strs.src (((hown6.toSl strS).below strS (Below.refl _ _).drew).take_ (Nat.le_of_lt hil)) hY h0
  have HY := Lib.hid hY
  have HYL := Lib.hid hYl
  have hk0 : (0 : Int) ≤ (i : Int) := by omega
  have hk1 : (i : Int) ≤ (ls.length : Int) := by omega
  have hk2 : (1 : Int) ≤ (ls.length : Int) := by omega
  have hfitY : 1 + Y.length ≤ (ls.map Value.string).length := by rw [List.length_map, hYl]; omega
  clear hpos hone hmin hfit HG6 hb5 hG5 hv5 hG6 hY hYl z0 zl
  by_cases hn1 : ls.length = 1
  · obtain rfl : i = 0 := by omega
    have hnoY : 0 < Y.length → False := fun h => by rw [HYL.out] at h; omega
    obtain ⟨a0, rfl⟩ := List.length_eq_one_iff.1 hn1
    simp only [List.length_singleton] at HIX hk1 hk2 hminY
    clear hn1
    go_wp2_with fail
    refine HIX.out.mono ?_
    rintro e w7 ⟨rfl, rfl⟩
    go_wp2
    go_region_held3 (fun _ => True) (trivial) (first
      | (with_reducible refine step_copy_splice rfl (.tmp 19) (.tmp 22) 32 32 rfl 9 Tryz.underlying32 hsz1 _ _ _ _ _ _ rfl rfl (w.heap.size + 1) 1 _ 9 hG7 Y hminY (fun h0 => (hnoY h0).elim) hfitY honeY (w.heap.size + 1) _ hb7 (Nat.le_refl _) ?_; intro w8 HG8 hb8))
    have hG8 := HG8.out
    rw [HY.out, splice_one [a0] hil, ← flatStrs] at hG8
    have hs8 := hb8.size
    simp only [World.size_alloc] at hs8
    have hown8 : OwnRep 1 (flat strEnc) 9 (w.heap.size + 1) w8 ([a0].take 1 ++ ([a0].take 0 ++ [a0].drop (0 + 1))) (.slice (some ⟨w.heap.size + 1, 0, none⟩) [a0].length [a0].length) := OwnRep.of_full strS (by simp) (by unfold maxLen; omega) (Nat.le_refl _) hG8
    obtain ⟨a, ha⟩ := get_at [a0] (show 0 < [a0].length by omega)
    have ha8 : ([a0].take 1 ++ ([a0].take 0 ++ [a0].drop (0 + 1)))[0]? = some a := by simpa using ha
    have hset := hown8.set_ (j := 0) (x' := s) strS ha8 (by omega) rfl
    have hLs : ([a0].take 1 ++ ([a0].take 0 ++ [a0].drop (0 + 1))).set 0 s = s :: ([a0].take 0 ++ [a0].drop (0 + 1)) := by
      rfl
    rw [hLs] at hset
    have c0 : w8.cell? ⟨w.heap.size + 1, 0, none⟩ = some (.string a) := by
      obtain ⟨b, off, e, _, hc⟩ := Strs.at_ (hown8.toSl strS) ha8
      injection e with e
      injection e with e1 e2
      rw [e1]; simpa [← e2] using hc
    have f0 : w8.frozen? ⟨w.heap.size + 1, 0, none⟩ = false := by simp [World.frozen?, hG8]
    clear hG8 HG8 hown8 ha8 ha
    go_wp2
    go_ret
    exact ⟨_, rfl, by rw [HP.out]; simpa using hset.base_le (Nat.le_succ _), b1.trans ((hb8.setCell (p := ⟨w.heap.size + 1, 0, none⟩) (Nat.le_refl _) _).mono (Nat.le_succ _))⟩
  · have HSRC := Lib.hid hsrcY
    clear hsrcY
    go_wp2_with fail
    refine HIX.out.mono ?_
    rintro e w7 ⟨rfl, rfl⟩
    go_wp2
    go_region_held3 (fun _ => True) (trivial) (first
      | (with_reducible refine step_copy_splice rfl (.tmp 19) (.tmp 22) 32 32 rfl 9 Tryz.underlying32 hsz1 _ _ _ _ _ _ rfl rfl (w.heap.size + 1) 1 _ 9 hG7 Y hminY (fun h0 => ⟨rfl, HSRC.out h0⟩) hfitY honeY (w.heap.size + 1) _ hb7 (Nat.le_refl _) ?_; intro w8 HG8 hb8))
    have hG8 := HG8.out
    rw [HY.out, splice_one ls hil, ← flatStrs] at hG8
    have hs8 := hb8.size
    simp only [World.size_alloc] at hs8
    have hown8 : OwnRep 1 (flat strEnc) 9 (w.heap.size + 1) w8 (ls.take 1 ++ (ls.take i ++ ls.drop (i + 1))) (.slice (some ⟨w.heap.size + 1, 0, none⟩) ls.length ls.length) := OwnRep.of_full strS (by simp; omega) (by unfold maxLen; omega) (Nat.le_refl _) hG8
    obtain ⟨a, ha⟩ := get_at ls (show 0 < ls.length by omega)
    have ha8 : (ls.take 1 ++ (ls.take i ++ ls.drop (i + 1)))[0]? = some a := by rw [List.getElem?_append_left (by simp; omega), List.getElem?_take, if_pos (by omega)]; exact ha
    have hset := hown8.set_ (j := 0) (x' := s) strS ha8 (by omega) rfl
    have hLs : (ls.take 1 ++ (ls.take i ++ ls.drop (i + 1))).set 0 s = s :: (ls.take i ++ ls.drop (i + 1)) := by
      rw [List.set_append_left _ _ (by simp; omega)]
      cases ls with
      | nil => simp at hil
      | cons x r => rfl
    rw [hLs] at hset
    have c0 : w8.cell? ⟨w.heap.size + 1, 0, none⟩ = some (.string a) := by
      obtain ⟨b, off, e, _, hc⟩ := Strs.at_ (hown8.toSl strS) ha8
      injection e with e
      injection e with e1 e2
      rw [e1]; simpa [← e2] using hc
    have f0 : w8.frozen? ⟨w.heap.size + 1, 0, none⟩ = false := by simp [World.frozen?, hG8]
    clear hG8 HG8 hown8 ha8 ha
    go_wp2
    go_ret
    exact ⟨_, rfl, by rw [HP.out]; simpa using hset.base_le (Nat.le_succ _), b1.trans ((hb8.setCell (p := ⟨w.heap.size + 1, 0, none⟩) (Nat.le_refl _) _).mono (Nat.le_succ _))⟩
end
section
open Go.RowKit

theorem chooseG_cons (ord : List ByteArray) (out : List Fact) (f : Fact) (r : List Fact) : chooseG ord out (f :: r) = match out.getLast? with
    | none => chooseG ord (out ++ [f]) r
    | some q => if q.el ≠ f.el then chooseG ord (out ++ [f]) r else if rankF ord f.lang < rankF ord q.lang then chooseG ord (out.dropLast ++ [f]) r else chooseG ord out r := rfl
theorem OwnRep.set3 {e : TypeId} {base : Nat} {w : World} {xs : List Fact} {g n cap i : Nat} (h : OwnRep 3 (flat Fact.enc) e base w xs (.slice (some ⟨g, 0, none⟩) n cap)) {q f : Fact} (hx : xs[i]? = some q) :
    OwnRep 3 (flat Fact.enc) e base (((w.setCell ⟨g, i * 3, none⟩ (.int .i64 f.el)).setCell ⟨g, i * 3 + 1, none⟩ (.string f.lang)).setCell ⟨g, i * 3 + 2, none⟩ (.string f.text)) (xs.set i f) (.slice (some ⟨g, 0, none⟩) n cap) := by
  have hil := lt_of_at hx
  have h1 := h.set_ (j := 0) (x' := ⟨f.el, q.lang, q.text⟩) fctS hx (by omega) rfl
  have h2 := h1.set_ (j := 1) (x := ⟨f.el, q.lang, q.text⟩) (x' := ⟨f.el, f.lang, q.text⟩) fctS (by rw [List.getElem?_set, if_pos rfl, if_pos hil]) (by omega) rfl
  have h3 := h2.set_ (j := 2) (x := ⟨f.el, f.lang, q.text⟩) (x' := f) fctS (by rw [List.set_set, List.getElem?_set, if_pos rfl, if_pos hil]) (by omega) rfl
  rw [List.set_set, List.set_set] at h3
  exact h3
theorem set_last {α : Type} (o : List α) (q f : α) : (o ++ [q]).set o.length f = o ++ [f] := by simp
set_option maxRecDepth 100000 in
set_option maxHeartbeats 8000000 in
theorem choose_c (xs : List Fact) (ord : List ByteArray) (v vo : Value) (w : World) (B : Nat) (hB : B ≤ w.heap.size) (h : Facts w B xs v) (ho : Strs w w.heap.size ord vo) (h32 : xs.length ≤ 32) :
    Calls Tryz.prog 112 #[v, vo] w fun e w' => ∃ v', e = .returned v' ∧ OwnRep 3 (flat Fact.enc) 93 w.heap.size w' (chooseF ord xs) v' ∧ Below w.heap.size w w' := by
  obtain ⟨A, ca, rfl, hc1, hc2, _⟩ := id h
  obtain ⟨Ao, co, rfl, hd1, hd2, _⟩ := id ho
  have HE := Lib.hid (show chooseF ord xs = chooseG ord [] (xs.drop 0) from rfl)
  have HRK := Lib.hid (fun (x : ByteArray) (W : World) (hW : Below w.heap.size w W) => sindex_c x ord (.slice Ao ord.length co) W (fun b => b < w.heap.size) (fun b hb => Nat.lt_of_lt_of_le hb hW.size) (ho.below strS hW))
  go_enter Tryz.func112, Tryz.ntmps112
  go_wp2
  go_loopw [5, 11] (fun v5 v11 wr => ∃ (k : Nat) (out : List Fact), k ≤ xs.length ∧ v11 = .int .i64 k ∧ out.length ≤ k ∧ Hid (chooseF ord xs = chooseG ord out (xs.drop k)) ∧ OwnRep 3 (flat Fact.enc) 93 w.heap.size wr out v5 ∧ Below w.heap.size w wr) (fun _ v11 _ => xs.length - (intOf v11).toNat)
  case atStart => exact ⟨0, [], Nat.zero_le _, rfl, by simp, HE, OwnRep.nil_, Below.refl _ _⟩
  case round =>
    clear HE
    obtain ⟨k, out, hk, rfl, hok, HS, hown, Br⟩ := hrel
    have hsr := Br.size
    by_cases hlt : k < xs.length
    · obtain ⟨f, hx⟩ := get_at xs hlt
      have HD := Lib.hid (drop_at hx)
      obtain ⟨b, off, rfl, hbB, g0, g1, g2⟩ := Facts.at_ (h.below fctS (Br.mono hB)) hx
      have hbw : b < wr.heap.size := by omega
      have bx := (Below.refl wr.heap.size wr).alloc (Nat.le_refl _) (fctC f)
      have Bx := Br.trans (bx.mono hsr)
      have KF := Lib.hid (fun (W : World) (hW : Below (wr.heap.size + 1) (wr.alloc (fctC f)) W) => (⟨(hW.cell (p := ⟨wr.heap.size, 0, none⟩) (by simp)).trans (by simp), (hW.cell (p := ⟨wr.heap.size, 1, none⟩) (by simp)).trans (by simp), (hW.cell (p := ⟨wr.heap.size, 2, none⟩) (by simp)).trans (by simp), by have := hW.size; simp at this; omega⟩ : W.cell? ⟨wr.heap.size, 0, none⟩ = some (.int .i64 f.el) ∧ W.cell? ⟨wr.heap.size, 1, none⟩ = some (.string f.lang) ∧ W.cell? ⟨wr.heap.size, 2, none⟩ = some (.string f.text) ∧ wr.heap.size < W.heap.size))
      have HOL := Lib.hid hown.own_lt
      clear hx
      rcases List.eq_nil_or_concat out with rfl | ⟨o, q, hoq⟩
      · have HN := Lib.hid (show chooseF ord xs = chooseG ord ([] ++ [f]) (xs.drop (k + 1)) by rw [HS.out, HD.out, chooseG_cons]; rfl)
        rcases hown.cases_ with ⟨rfl, -⟩ | ⟨g, cap, rfl, hgb, hgl, hcp1, hcp2⟩
        · go_wp2
          go_quiet (fail)
          have hW2 : Below (wr.heap.size + 1) (wr.alloc (fctC f)) ((wr.alloc (fctC f)).drewN nq) := below_drewN (Below.refl _ _) nq
          generalize ((wr.alloc (fctC f)).drewN nq) = W2 at *
          obtain ⟨y0, y1, y2, yl⟩ := KF.out _ hW2
          have bW := bx.trans (hW2.mono (Nat.le_succ _))
          have hs2 := hW2.size
          simp only [World.size_alloc] at hs2
          have hlo : ∀ b, (.slice none 0 0 : Value).ownBlock = some b → w.heap.size ≤ b ∧ b < wr.heap.size := fun b hb => by cases hb
          go_wp2_with (at_builtin; refine stop_intro ?_)
          refine stop_elim ?_
          have sF : ∀ b, (False ∨ b = W2.heap.size) → b < (W2.alloc (.cells (Fact.enc f).toArray 93)).heap.size ∧ (.slice none 0 0 : Value).ownBlock ≠ some b := fun b hb => by
            rcases hb with hb | rfl
            · exact hb.elim
            · exact ⟨by simp, fun e => by have := (hlo _ e).2; omega⟩
          refine wpList_append_rep (xs := []) rfl fctS fctE_ w.heap.size (.tmp 31) (.tmp 33) rfl rfl (OwnRep.nil_) rfl (ys := [f]) (SlRep.one_new fctS (w := W2) (F := fun _ => False) (x := f) (cs := Fact.enc f) rfl rfl (fun b hb => hb.elim)) sF (by simp) (by decide) (by simp; omega) ?_
          intro v6 w6 hown6 hg6 hat6
          have b6 : Below w.heap.size w w6 := (bnd_alloc (Br.trans (bW.mono hsr)) (Nat.le_refl _) _).grown hg6 (by simp; omega) (fun k hk => (hlo k hk).1)
          clear y0 y1 y2 yl
          go_wp2
          go_roundw
          case rel => exact ⟨k + 1, _, by omega, by go_num, by simp, HN, hown6, b6⟩
          case measure => simp [intOf]; omega
        · go_wp2
          go_quiet (fail)
          have hW2 : Below (wr.heap.size + 1) (wr.alloc (fctC f)) ((wr.alloc (fctC f)).drewN nq) := below_drewN (Below.refl _ _) nq
          generalize ((wr.alloc (fctC f)).drewN nq) = W2 at *
          obtain ⟨y0, y1, y2, yl⟩ := KF.out _ hW2
          have bW := bx.trans (hW2.mono (Nat.le_succ _))
          have hs2 := hW2.size
          simp only [World.size_alloc] at hs2
          have hlo : ∀ b, (.slice (some ⟨g, 0, none⟩) ([] : List Fact).length cap : Value).ownBlock = some b → w.heap.size ≤ b ∧ b < wr.heap.size := fun b hb => HOL.out b hb
          go_wp2_with (at_builtin; refine stop_intro ?_)
          refine stop_elim ?_
          have sF : ∀ b, (False ∨ b = W2.heap.size) → b < (W2.alloc (.cells (Fact.enc f).toArray 93)).heap.size ∧ (.slice (some ⟨g, 0, none⟩) ([] : List Fact).length cap : Value).ownBlock ≠ some b := fun b hb => by
            rcases hb with hb | rfl
            · exact hb.elim
            · exact ⟨by simp, fun e => by have := (hlo _ e).2; omega⟩
          refine wpList_append_rep (xs := []) rfl fctS fctE_ w.heap.size (.tmp 31) (.tmp 33) rfl rfl ((hown.below fctS (bnd_alloc bW (Nat.le_refl _) _))) rfl (ys := [f]) (SlRep.one_new fctS (w := W2) (F := fun _ => False) (x := f) (cs := Fact.enc f) rfl rfl (fun b hb => hb.elim)) sF (by simp) (by decide) (by simp; omega) ?_
          intro v6 w6 hown6 hg6 hat6
          have b6 : Below w.heap.size w w6 := (bnd_alloc (Br.trans (bW.mono hsr)) (Nat.le_refl _) _).grown hg6 (by simp; omega) (fun k hk => (hlo k hk).1)
          clear y0 y1 y2 yl
          go_wp2
          go_roundw
          case rel => exact ⟨k + 1, _, by omega, by go_num, by simp, HN, hown6, b6⟩
          case measure => simp [intOf]; omega
      · rw [List.concat_eq_append] at hoq
        subst hoq
        have HLQ := Lib.hid (show (o ++ [q]).getLast? = some q by simp)
        have hol : o.length + 1 ≤ k := by simpa using hok
        obtain ⟨g, cap, rfl, hgb, hgl, hcp1, hcp2⟩ := own_ptr hown (n := o.length + 1) (by simp) (by omega)
        obtain ⟨b2, off2, e2, -, q0, q1, q2⟩ := Facts.at_ (hown.toSl fctS) (show (o ++ [q])[o.length]? = some q by simp)
        injection e2 with e2
        injection e2 with e3 e4
        subst e3 e4
        simp only [Nat.zero_add] at q0 q1 q2
        have u0 := (bx.cell (p := ⟨g, o.length * 3, none⟩) hgl).trans q0
        have u1 := (bx.cell (p := ⟨g, o.length * 3 + 1, none⟩) hgl).trans q1
        have hki0 : (0 : Int) ≤ (o.length : Int) := by omega
        have hki1 : (o.length : Int) < (o.length : Int) + 1 := by omega
        have hki2 : ((o.length : Int) + 1 == 0) = false := by simp; omega
        have hw0 : IntKind.i64.wrap ((o.length : Int) + 1 - 1) = (o.length : Int) := by rw [Int.add_sub_cancel]; exact IntWalk.i64_in _ (by omega)
        have hw1 : IntKind.i64.wrap (o.length : Int) = (o.length : Int) := IntWalk.i64_in _ (by omega)
        by_cases hqf : q.el = f.el
        · have hne : (q.el != f.el) = false := by simp [hqf]
          have HQF := Lib.hid hqf
          clear hqf
          go_wp2
          go_region_held3 (fun W => W.cell? ⟨g, o.length * 3, none⟩ = some (.int .i64 q.el) ∧ W.cell? ⟨wr.heap.size, 0, none⟩ = some (.int .i64 f.el)) (simp [go_sem, *]) (fail)
          have hW2 : Below (wr.heap.size + 1) (wr.alloc (fctC f)) (wr.alloc (fctC f)).drew := (Below.refl _ _).drew
          generalize (wr.alloc (fctC f)).drew = W2 at *
          obtain ⟨y0, y1, y2, yl⟩ := KF.out _ hW2.drew
          have bW := bx.trans (hW2.mono (Nat.le_succ _))
          have BW := (Br.trans (bW.mono hsr)).drew
          have p1 := (bW.drew.cell (p := ⟨g, o.length * 3 + 1, none⟩) hgl).trans q1
          by_cases hrk : rankF ord f.lang < rankF ord q.lang
          · have hd : decide (idxF (fun x => decide (x = f.lang)) ord < idxF (fun x => decide (x = q.lang)) ord) = true := decide_eq_true hrk
            have HN := Lib.hid (show chooseF ord xs = chooseG ord (o ++ [f]) (xs.drop (k + 1)) by rw [HS.out, HD.out, chooseG_cons, HLQ.out]; simp only; rw [if_neg (by simp [HQF.out]), if_pos hrk, List.dropLast_concat])
            clear hrk
            go_wp2
            go_region_held3 (fun W => W.cell? ⟨g, o.length * 3 + 1, none⟩ = some (.string q.lang) ∧ W.cell? ⟨wr.heap.size, 1, none⟩ = some (.string f.lang)) (with_reducible exact ⟨p1, y1⟩) (first
              | (go_at_call 104; (with_reducible refine (HRK.out _ _ BW).mono ?_); rintro e w' ⟨rfl, rfl⟩))
            have hown2 := hown.below fctS bW.drew
            have hown3 := hown.below fctS bW
            obtain ⟨⟨c0, z0⟩, ⟨c1, z1⟩, c2, z2⟩ : ((W2.cell? ⟨g, o.length * 3, none⟩ = some (.int .i64 q.el)) ∧ (W2.frozen? ⟨g, o.length * 3, none⟩ = false)) ∧ ((W2.cell? ⟨g, o.length * 3 + 1, none⟩ = some (.string q.lang)) ∧ (W2.frozen? ⟨g, o.length * 3 + 1, none⟩ = false)) ∧ ((W2.cell? ⟨g, o.length * 3 + 2, none⟩ = some (.string q.text)) ∧ (W2.frozen? ⟨g, o.length * 3 + 2, none⟩ = false)) := by
              obtain ⟨g', cap', ev, -, -, -, -, -, hcf⟩ := hown3.open_ fctS (by simp)
              injection ev with ev
              injection ev with ev
              injection ev with ev
              subst ev
              exact ⟨hcf o.length q 0 _ (by simp) rfl, hcf o.length q 1 _ (by simp) rfl, hcf o.length q 2 _ (by simp) rfl⟩
            have hset := hown3.set3 (f := f) (q := q) (i := o.length) (by simp)
            rw [set_last] at hset
            clear hown2 p1 q0 q1 q2 u0 u1 hown3
            go_wp2
            go_roundw
            case rel => exact ⟨k + 1, _, by omega, by go_num, by simp; omega, HN, hset.below fctS (Below.refl _ _).drew, (((BW.setCell hgb _).setCell hgb _).setCell hgb _)⟩
            case measure => simp [intOf]; omega
          · have hd : decide (idxF (fun x => decide (x = f.lang)) ord < idxF (fun x => decide (x = q.lang)) ord) = false := decide_eq_false hrk
            have HN := Lib.hid (show chooseF ord xs = chooseG ord (o ++ [q]) (xs.drop (k + 1)) by rw [HS.out, HD.out, chooseG_cons, HLQ.out]; simp only; rw [if_neg (by simp [HQF.out]), if_neg hrk])
            clear hrk
            go_wp2
            go_region_held3 (fun W => W.cell? ⟨g, o.length * 3 + 1, none⟩ = some (.string q.lang) ∧ W.cell? ⟨wr.heap.size, 1, none⟩ = some (.string f.lang)) (with_reducible exact ⟨p1, y1⟩) (first
              | (go_at_call 104; (with_reducible refine (HRK.out _ _ BW).mono ?_); rintro e w' ⟨rfl, rfl⟩))
            go_wp2
            go_roundw
            case rel => exact ⟨k + 1, _, by omega, by go_num, by simp; omega, HN, hown.below fctS bW.drew, BW⟩
            case measure => simp [intOf]; omega
        · have hne : (q.el != f.el) = true := by simp [hqf]
          have HN := Lib.hid (show chooseF ord xs = chooseG ord ((o ++ [q]) ++ [f]) (xs.drop (k + 1)) by rw [HS.out, HD.out, chooseG_cons, HLQ.out]; simp only; rw [if_pos hqf])
          clear hqf
          go_wp2
          go_region_held3 (fun W => W.cell? ⟨g, o.length * 3, none⟩ = some (.int .i64 q.el) ∧ W.cell? ⟨wr.heap.size, 0, none⟩ = some (.int .i64 f.el)) (simp [go_sem, *]) (fail)
          have hW2 : Below (wr.heap.size + 1) (wr.alloc (fctC f)) (wr.alloc (fctC f)).drew := (Below.refl _ _).drew
          generalize (wr.alloc (fctC f)).drew = W2 at *
          obtain ⟨y0, y1, y2, yl⟩ := KF.out _ hW2
          have bW := bx.trans (hW2.mono (Nat.le_succ _))
          have hs2 := hW2.size
          simp only [World.size_alloc] at hs2
          have hlo : ∀ b, (.slice (some ⟨g, 0, none⟩) (o.length + 1) cap : Value).ownBlock = some b → w.heap.size ≤ b ∧ b < wr.heap.size := fun b hb => HOL.out b hb
          go_wp2_with (at_builtin; refine stop_intro ?_)
          refine stop_elim ?_
          have sF : ∀ b, (False ∨ b = W2.heap.size) → b < (W2.alloc (.cells (Fact.enc f).toArray 93)).heap.size ∧ (.slice (some ⟨g, 0, none⟩) (o.length + 1) cap : Value).ownBlock ≠ some b := fun b hb => by
            rcases hb with hb | rfl
            · exact hb.elim
            · exact ⟨by simp, fun e => by have := (hlo _ e).2; omega⟩
          refine wpList_append_rep (xs := (o ++ [q])) rfl fctS fctE_ w.heap.size (.tmp 31) (.tmp 33) rfl rfl ((hown.below fctS (bnd_alloc bW (Nat.le_refl _) _))) rfl (ys := [f]) (SlRep.one_new fctS (w := W2) (F := fun _ => False) (x := f) (cs := Fact.enc f) rfl rfl (fun b hb => hb.elim)) sF (by simp; omega) (by decide) (by simp; omega) ?_
          intro v6 w6 hown6 hg6 hat6
          have b6 : Below w.heap.size w w6 := (bnd_alloc (Br.trans (bW.mono hsr)) (Nat.le_refl _) _).grown hg6 (by simp; omega) (fun k hk => (hlo k hk).1)
          clear y0 y1 y2 yl
          go_wp2
          go_roundw
          case rel => exact ⟨k + 1, _, by omega, by go_num, by simp; omega, HN, hown6, b6⟩
          case measure => simp [intOf]; omega
    · have HE := Lib.hid (show chooseF ord xs = out by rw [HS.out, List.drop_of_length_le (by omega)]; rfl)
      have hsl := hown.toSl fctS
      obtain ⟨A5, c5, rfl, -⟩ := id hsl
      go_wp2
      go_ret
      exact ⟨_, rfl, by rw [HE.out]; exact hown, Br⟩
end
section
open Go.RowKit

theorem langG_zero : ∀ (r sn : List ByteArray), langG sn r = 0 → sn.Nodup → (sn ++ r).Nodup ∧ ∀ x ∈ r, letB x = true
  | [], sn, _, h => by simpa using h
  | x :: r, sn, h, hn => by
    unfold langG at h
    by_cases h1 : letB x = false
    · rw [if_pos h1] at h; cases h
    rw [if_neg h1] at h
    by_cases h2 : hasS sn x = true
    · rw [if_pos h2] at h; cases h
    rw [if_neg h2] at h
    have hx : x ∉ sn := fun hm => h2 (hasS_iff.2 hm)
    obtain ⟨i1, i2⟩ := langG_zero r (sn ++ [x]) h (List.nodup_append.2 ⟨hn, by simp, fun a ha b hb e => hx (by simp at hb; subst hb; subst e; exact ha)⟩)
    refine ⟨by simpa [List.append_assoc] using i1, fun y hy => ?_⟩
    rcases List.mem_cons.1 hy with rfl | hy
    · simpa using h1
    · exact i2 y hy
theorem langE_zero {ls : List ByteArray} (h : langE ls = 0) : 1 ≤ ls.length ∧ ls.length ≤ 8 ∧ ls.Nodup ∧ ∀ x ∈ ls, letB x = true := by
  unfold langE at h
  by_cases h1 : ls.length < 1 ∨ 8 < ls.length
  · rw [if_pos h1] at h; cases h
  rw [if_neg h1] at h
  obtain ⟨i1, i2⟩ := langG_zero ls [] h (by simp)
  exact ⟨by omega, by omega, by simpa using i1, i2⟩
theorem pref_eq {ls : List ByteArray} {s : ByteArray} (hn : ls.Nodup) (hs : s ∈ ls) : prefP ls s = prefF ls s := by
  unfold prefP prefF
  rcases idxF_cases (fun x => decide (x = s)) ls with ⟨-, h2⟩ | ⟨k, x, h1, h2, h3, -⟩
  · have := h2 s hs; simp at this
  · have hx : x = s := by simpa using h3
    subst hx
    have hk : (rankF ls x).toNat = k := by unfold rankF; rw [h1]; simp
    obtain ⟨hlt, hg⟩ := List.getElem?_eq_some_iff.1 h2
    have hsp : ls = ls.take k ++ x :: ls.drop (k + 1) := by rw [← hg, List.getElem_cons_drop, List.take_append_drop]
    rw [hk]
    have hn2 : (ls.take k ++ x :: ls.drop (k + 1)).Nodup := by rw [← hsp]; exact hn
    obtain ⟨-, n2, n3⟩ := List.nodup_append.1 hn2
    obtain ⟨n4, -⟩ := List.nodup_cons.1 n2
    have e1 : (ls.take k).filter (fun y => decide (y ≠ x)) = ls.take k := List.filter_eq_self.2 fun y hy => by simpa using n3 y hy x (by simp)
    have e2 : (ls.drop (k + 1)).filter (fun y => decide (y ≠ x)) = ls.drop (k + 1) := List.filter_eq_self.2 fun y hy => by simp; rintro rfl; exact n4 hy
    conv => rhs; rw [hsp]
    rw [List.filter_append, List.filter_cons, if_neg (by simp), e1, e2]
end
section
open Go.RowKit

theorem shtG_zero {ls : List ByteArray} : ∀ (r bf : List Sheet) (p : List Int), shtG ls bf p r = 0 → ∀ s ∈ r, (1 ≤ s.unit ∧ s.unit ≤ 1073741824 ∧ 1 ≤ s.level ∧ s.level ≤ 4) ∧ (s.mark.size ≤ 64 ∧ 1 ≤ s.title.size ∧ s.title.size ≤ 64) ∧ fctE ls s.facts = 0
  | [], _, _, _ => by simp
  | x :: r, bf, p, h => by
    rw [shtG_cons] at h
    by_cases h0 : shtF ls bf p x = 0
    · rw [if_pos h0] at h
      intro s hs
      rcases List.mem_cons.1 hs with rfl | hs
      · obtain ⟨a, b, _, _, _, e⟩ := shtF_zero h0
        exact ⟨a, b, e⟩
      · exact shtG_zero r _ _ h s hs
    · rw [if_neg h0] at h
      exact absurd h h0
theorem catE_zero {c : Cat} (h : catE c = 0) : langE c.langs = 0 ∧ labE c.langs c.labels = 0 ∧ c.sheets.length ≤ 256 ∧ ∀ s ∈ c.sheets, (1 ≤ s.unit ∧ s.unit ≤ 1073741824 ∧ 1 ≤ s.level ∧ s.level ≤ 4) ∧ (s.mark.size ≤ 64 ∧ 1 ≤ s.title.size ∧ s.title.size ≤ 64) ∧ fctE c.langs s.facts = 0 := by
  unfold catE at h
  by_cases h1 : langE c.langs = 0
  · rw [if_neg (by simp [h1])] at h
    by_cases h2 : labE c.langs c.labels = 0
    · rw [if_neg (by simp [h2])] at h
      unfold shtE at h
      by_cases h3 : 256 < c.sheets.length
      · rw [if_pos h3] at h; cases h
      rw [if_neg h3] at h
      exact ⟨h1, h2, by omega, shtG_zero _ _ _ h⟩
    · rw [if_pos h2] at h; exact absurd h h2
  · rw [if_pos h1] at h; exact absurd h h1
theorem fctE_len {ls : List ByteArray} {l : List Fact} (h : fctE ls l = 0) : l.length ≤ 32 := by
  unfold fctE at h
  by_cases h3 : 32 < l.length
  · rw [if_pos h3] at h; cases h
  · omega
end
section
open Go.RowKit

/-- the chosen facts of a unit -/
def chooseR (c : Cat) (u : Int) (s : ByteArray) : List Fact := if rightB c s = false ∨ shtIx c.sheets u < 0 then [] else (c.sheets[(shtIx c.sheets u).toNat]?.map fun x => rchooseF x.facts (prefF c.langs s)).getD []
theorem rightB_iff {c : Cat} {s : ByteArray} (h : rightB c s = true) : catE c = 0 ∧ s ∈ c.langs := by
  unfold rightB at h
  rw [Bool.and_eq_true, decide_eq_true_iff] at h
  exact ⟨h.1, hasS_iff.1 h.2⟩
set_option maxRecDepth 100000 in
set_option maxHeartbeats 4000000 in
theorem Choose_c (c : Cat) (u : Int) (s : ByteArray) (v1 v2 v3 : Value) (w : World) (B : Nat) (hB : B ≤ w.heap.size) (h : CatRep w B c v1 v2 v3) :
    Calls Tryz.prog 71 #[.agg #[v1, v2, v3], .int .i64 u, .string s] w fun e w' => ∃ v', e = .returned v' ∧ OwnRep 3 (flat Fact.enc) 93 w.heap.size w' (chooseR c u s) v' ∧ Below w.heap.size w w' := by
  have b1 : Below w.heap.size w (w.alloc (catC v1 v2 v3)) := (Below.refl _ _).alloc (Nat.le_refl _) _
  have KC := Lib.hid (fun (W : World) (hW : Below (w.heap.size + 1) (w.alloc (catC v1 v2 v3)) W) => (⟨(hW.cell (p := ⟨w.heap.size, 0, none⟩) (by simp)).trans (by simp), (hW.cell (p := ⟨w.heap.size, 1, none⟩) (by simp)).trans (by simp), (hW.cell (p := ⟨w.heap.size, 2, none⟩) (by simp)).trans (by simp), by have := hW.size; simp at this; omega⟩ : W.cell? ⟨w.heap.size, 0, none⟩ = some v1 ∧ W.cell? ⟨w.heap.size, 1, none⟩ = some v2 ∧ W.cell? ⟨w.heap.size, 2, none⟩ = some v3 ∧ w.heap.size < W.heap.size))
  have HF := Lib.hid (fun (W : World) (hW : Below w.heap.size w W) => find_c c.sheets u v3 W B (Nat.le_trans hB hW.size) (h.sheets.below shtS (hW.mono hB)))
  have HSP := Lib.hid (fun (W : World) (hW : Below w.heap.size w W) => speaks_c c s v1 v2 v3 W B (Nat.le_trans hB hW.size) (h.below (hW.mono hB)))
  have hb0 : Below (w.heap.size + 1) (w.alloc (catC v1 v2 v3)) (w.alloc (catC v1 v2 v3)) := Below.refl _ _
  rcases idxF_cases (fun x : Sheet => decide (x.unit = u)) c.sheets with ⟨h1, -⟩ | ⟨k, x, h1, h2, -, -⟩
  · have hi : shtIx c.sheets u = -1 := h1
    have HE := Lib.hid (show chooseR c u s = [] by unfold chooseR; rw [hi, if_pos (.inr (by decide))])
    rw [hi] at HF
    clear h1 hi
    go_enter Tryz.func71, Tryz.ntmps71
    go_wp2_with fail
    refine (HF.out _ b1).mono ?_
    rintro e w1 ⟨rfl, hb1⟩
    go_wp2
    go_ret
    exact ⟨_, rfl, by rw [HE.out]; exact OwnRep.nil_, b1.trans (hb1.mono (by simp))⟩
  · have hi : shtIx c.sheets u = (k : Int) := h1
    have hkl := lt_of_at h2
    have hki0 : (0 : Int) ≤ (k : Int) := by omega
    have hki1 : (k : Int) < (c.sheets.length : Int) := by omega
    have hki2 : decide ((k : Int) < 0) = false := by simp
    cases hr : rightB c s
    · have HE := Lib.hid (show chooseR c u s = [] by unfold chooseR; rw [if_pos (.inl hr)])
      rw [hi] at HF
      rw [hr] at HSP
      clear h1 hi hr h2
      go_enter Tryz.func71, Tryz.ntmps71
      go_wp2_with fail
      refine (HF.out _ b1).mono ?_
      rintro e w1 ⟨rfl, hb1⟩
      have hbX := bnd_call hb0 (by simp) hb1
      obtain ⟨z0, z1, z2, zl⟩ := KC.out _ hbX
      have B1 := b1.trans (hbX.mono (Nat.le_succ _))
      go_wp2_with fail
      refine (HSP.out _ B1).mono ?_
      rintro e w2 ⟨rfl, hb2⟩
      go_wp2
      go_ret
      exact ⟨_, rfl, by rw [HE.out]; exact OwnRep.nil_, B1.trans (hb2.mono B1.size)⟩
    · obtain ⟨hc0, hsl⟩ := rightB_iff hr
      obtain ⟨hz1, -, -, hz4⟩ := catE_zero hc0
      obtain ⟨l1, l2, l3, -⟩ := langE_zero hz1
      have hz5 := (hz4 x (List.mem_of_getElem? h2)).2.2
      have HE := Lib.hid (show chooseR c u s = chooseF (prefP c.langs s) x.facts by
        unfold chooseR
        rw [if_neg (by rw [hi, hr]; simp), hi, pref_eq l3 hsl, choose_eq hz5]
        simp [h2])
      obtain ⟨A, ca, rfl, hc1, hc2, _⟩ := id h.sheets
      obtain ⟨b, off, vf, rfl, hbB, g0, g1, g2, g3, g4, g5, hvf⟩ := Sheets.at_ h.sheets h2
      have hbw : b < w.heap.size := by omega
      have HPR := Lib.hid (fun (W : World) (hW : Below w.heap.size w W) => prefer_c c s v1 v2 (.slice (some ⟨b, off, none⟩) c.sheets.length ca) W B (Nat.le_trans hB hW.size) (h.langs.below strS (hW.mono hB)) hsl l2)
      have HCH := Lib.hid (fun (vp : Value) (W : World) (hW : Below w.heap.size w W) (hp : Strs W W.heap.size (prefP c.langs s) vp) => choose_c x.facts (prefP c.langs s) vf vp W B (Nat.le_trans hB hW.size) (hvf.below fctS (hW.mono hB)) hp (fctE_len hz5))
      have KG := Lib.hid (fun (W : World) (hW : Below w.heap.size w W) => (hW.cell (p := ⟨b, off + k * 6 + 5, none⟩) hbw).trans g5)
      rw [hi] at HF
      rw [hr] at HSP
      clear h1 hi hr h2 hvf g0 g1 g2 g3 g4 g5 hz1 hz4 hz5 l1 l2 l3 hc0 hsl
      go_enter Tryz.func71, Tryz.ntmps71
      go_wp2_with fail
      refine (HF.out _ b1).mono ?_
      rintro e w1 ⟨rfl, hb1⟩
      have hbX := bnd_call hb0 (by simp) hb1
      obtain ⟨z0, z1, z2, zl⟩ := KC.out _ hbX
      have B1 := b1.trans (hbX.mono (Nat.le_succ _))
      go_wp2_with fail
      refine (HSP.out _ B1).mono ?_
      rintro e w2 ⟨rfl, hb2⟩
      have hbX := bnd_call hbX (by simp) hb2
      clear z0 z1 z2 zl
      go_wp2
      have hbX := hbX.drew
      have KEEP := Lib.hid (fun (W : World) (hW : Below (w.heap.size + 1) (w.alloc (catC v1 v2 (.slice (some ⟨b, off, none⟩) c.sheets.length ca))) W) => (⟨(KC.out W hW).1, (KC.out W hW).2.1, (KC.out W hW).2.2.1, KG.out W (b1.trans (hW.mono (Nat.le_succ _)))⟩ : W.cell? ⟨w.heap.size, 0, none⟩ = some v1 ∧ W.cell? ⟨w.heap.size, 1, none⟩ = some v2 ∧ W.cell? ⟨w.heap.size, 2, none⟩ = some (.slice (some ⟨b, off, none⟩) c.sheets.length ca) ∧ W.cell? ⟨b, off + k * 6 + 5, none⟩ = some vf))
      go_region_held3 (fun W => W.cell? ⟨w.heap.size, 0, none⟩ = some v1 ∧ W.cell? ⟨w.heap.size, 1, none⟩ = some v2 ∧ W.cell? ⟨w.heap.size, 2, none⟩ = some (.slice (some ⟨b, off, none⟩) c.sheets.length ca) ∧ W.cell? ⟨b, off + k * 6 + 5, none⟩ = some vf) (with_reducible exact KEEP.out _ hbX) (first
        | (go_at_call 113; (with_reducible refine (HPR.out _ (b1.trans (hbX.mono (Nat.le_succ _)))).mono ?_); rintro e wP ⟨vp, rfl, hownP, hb'⟩; have kP := hownP.toSl strS; have hbX := bnd_call hbX (by simp) hb')
        | (go_at_call 112; (with_reducible refine (HCH.out _ _ (b1.trans (hbX.mono (Nat.le_succ _))) kP).mono ?_); rintro e wQ ⟨vq, rfl, hownQ, hb''⟩; have B2 := b1.trans (hbX.mono (Nat.le_succ _)); have hbX := bnd_call hbX (by simp) hb''))
      go_wp2
      go_ret
      exact ⟨_, rfl, by rw [HE.out]; exact hownQ.base_le B2.size, b1.trans (hbX.mono (Nat.le_succ _))⟩
end
end Go.Proofs.YtngodakkdhdmjaaGreatDoor
