/- The program: speaks, prefer. -/
import Derived.Test.YtbmlnflacdockaaGreatDoorPrD
import Derived.Test.YtbmlnflacdockaaGreatDoorGenB
import Derived.Laws.CopyOwn
namespace Go.Proofs.YtbmlnflacdockaaGreatDoor
open Go.RowKit

set_option maxHeartbeats 4000000 in
theorem speaks_c (c : Cat) (s : ByteArray) (v1 v2 v3 : Value) (w : World) (B : Nat) (hB : B ≤ w.heap.size) (h : CatRep w B c v1 v2 v3) :
    Calls Tryz.prog 49 #[.agg #[v1, v2, v3], .string s] w fun e w' => e = .returned (.bool (rightB c s)) ∧ Below w.heap.size w w' := by
  have b1 : Below w.heap.size w (w.alloc (catC v1 v2 v3)) := (Below.refl _ _).alloc (Nat.le_refl _) _
  have KC := Lib.hid (fun (W : World) (hW : Below (w.heap.size + 1) (w.alloc (catC v1 v2 v3)) W) => (⟨(hW.cell (p := ⟨w.heap.size, 0, none⟩) (by simp)).trans (by simp), by have := hW.size; simp at this; omega⟩ : W.cell? ⟨w.heap.size, 0, none⟩ = some v1 ∧ w.heap.size < W.heap.size))
  have HC := Lib.hid (fun (W : World) (hW : Below w.heap.size w W) => Check_c c v1 v2 v3 W B (Nat.le_trans hB hW.size) (h.below (hW.mono hB)))
  have HS := Lib.hid (fun (W : World) (hW : Below w.heap.size w W) => scontains_c s c.langs v1 W (fun b => b < B) (fun b hb => by have : b < B := hb; have := hW.size; omega) (h.langs.below strS (hW.mono hB)))
  have hb0 : Below (w.heap.size + 1) (w.alloc (catC v1 v2 v3)) (w.alloc (catC v1 v2 v3)) := Below.refl _ _
  by_cases h1 : catE c = 0
  · have HE := Lib.hid (show rightB c s = c.langs.any (fun x => decide (x = s)) by unfold rightB hasS; simp [h1])
    rw [h1] at HC
    clear h1
    go_enter Tryz.func49, Tryz.ntmps49
    go_wp2_with fail
    refine (HC.out _ b1).mono ?_
    rintro e w1 ⟨rfl, hb1⟩
    have hbX := bnd_call hb0 (by simp) hb1
    obtain ⟨z0, zl⟩ := KC.out _ hbX
    have B1 := b1.trans (hbX.mono (Nat.le_succ _))
    go_wp2_with fail
    refine (HS.out _ B1).mono ?_
    rintro e w2 ⟨rfl, rfl⟩
    go_wp2
    go_ret
    exact ⟨ret_bool HE.out.symm, B1⟩
  · have HE := Lib.hid (show rightB c s = false by unfold rightB; simp [h1])
    obtain ⟨n1, n2⟩ := ne_bool h1
    clear h1
    go_enter Tryz.func49, Tryz.ntmps49
    go_wp2_with fail
    refine (HC.out _ b1).mono ?_
    rintro e w1 ⟨rfl, hb1⟩
    go_wp2
    go_ret
    exact ⟨ret_bool HE.out.symm, b1.trans (hb1.mono (by simp))⟩
/-- the preference as the program makes it -/
def prefP (ls : List ByteArray) (s : ByteArray) : List ByteArray := s :: (ls.take (rankF ls s).toNat ++ ls.drop ((rankF ls s).toNat + 1))
theorem splice_full {α : Type} {Z cs : List α} (h : cs.length = Z.length) : splice Z 0 cs = cs := by
  unfold splice
  simp [h]
theorem madeStrs (n : Nat) : (madeCells (Value.string ⟨#[]⟩).cells (n * 1)).toList = ((List.replicate n (⟨#[]⟩ : ByteArray)).map strEnc).flatten := by
  rw [Nat.mul_one, show (Value.string ⟨#[]⟩).cells = #[.string ⟨#[]⟩] from rfl, toList_madeCells_one, List.map_replicate]
  induction n with
  | zero => rfl
  | succ n ih => rw [List.replicate_succ, List.replicate_succ, List.flatten_cons, ← ih]; rfl
theorem flatStrs (xs : List ByteArray) : (xs.map strEnc).flatten = xs.map Value.string := by
  induction xs with
  | nil => rfl
  | cons x r ih => rw [List.map_cons, List.flatten_cons, ih]; rfl
theorem add_off (b off j : Nat) : (⟨b, off, none⟩ : Addr).add j = ⟨b, off + j, none⟩ := by
  unfold Addr.add
  split
  · simp_all
  · rfl
theorem Strs.src {w : World} {F : Nat → Prop} {xs : List ByteArray} {A : Option Addr} {n c : Nat} (h : SlRep 1 (flat strEnc) w F xs (.slice A n c)) {X : List Value} (hX : X = xs.map Value.string) (h0 : 0 < X.length) : ∃ ad, A = some ad ∧ ∀ j v, X[j]? = some v → w.cell? (ad.add j) = some v := by
  subst hX
  obtain ⟨x, hx⟩ := get_at xs (show 0 < xs.length by simpa using h0)
  obtain ⟨b, off, rfl, _, _⟩ := Strs.at_ h hx
  refine ⟨_, rfl, fun j v hv => ?_⟩
  rw [List.getElem?_map] at hv
  cases hj : xs[j]? with
  | none => rw [hj] at hv; cases hv
  | some y =>
    rw [hj] at hv
    injection hv with hv
    obtain ⟨b', off', e, _, hc⟩ := Strs.at_ h hj
    injection e with e
    injection e with e1 e2
    subst e1 e2
    rw [add_off, hc, ← hv]
theorem splice_one (ls : List ByteArray) {i : Nat} (hi : i < ls.length) (f : ByteArray → Value) : splice (ls.map f) 1 ((ls.take i).map f) = (ls.take 1 ++ (ls.take i ++ ls.drop (i + 1))).map f := by
  unfold splice
  simp only [List.length_map, List.length_take, Nat.min_eq_left (Nat.le_of_lt hi), List.map_append, List.map_take, List.map_drop]
  rw [show 1 + i = i + 1 by omega]
set_option maxRecDepth 100000 in
set_option maxHeartbeats 4000000 in
theorem prefer_c (c : Cat) (s : ByteArray) (v1 v2 v3 : Value) (w : World) (B : Nat) (hB : B ≤ w.heap.size) (h : Strs w B c.langs v1) (hs : s ∈ c.langs) (h8 : c.langs.length ≤ 8) :
    Calls Tryz.prog 33 #[.agg #[v1, v2, v3], .string s] w fun e w' => ∃ v', e = .returned v' ∧ OwnRep 1 (flat strEnc) 9 w.heap.size w' (prefP c.langs s) v' ∧ Below w.heap.size w w' := by
  have b1 : Below w.heap.size w (w.alloc (catC v1 v2 v3)) := (Below.refl _ _).alloc (Nat.le_refl _) _
  have KC := Lib.hid (fun (W : World) (hW : Below (w.heap.size + 1) (w.alloc (catC v1 v2 v3)) W) => (⟨(hW.cell (p := ⟨w.heap.size, 0, none⟩) (by simp)).trans (by simp), by have := hW.size; simp at this; omega⟩ : W.cell? ⟨w.heap.size, 0, none⟩ = some v1 ∧ w.heap.size < W.heap.size))
  obtain ⟨i, hi, hil, HPP⟩ : ∃ i : Nat, rankF c.langs s = (i : Int) ∧ i < c.langs.length ∧ prefP c.langs s = s :: (c.langs.take i ++ c.langs.drop (i + 1)) := by
    have h1 := rank_nonneg hs
    have h2 := rank_lt (ord := c.langs) (x := s)
    exact ⟨(rankF c.langs s).toNat, by omega, by omega, rfl⟩
  have HI := Lib.hid hi
  have HP := Lib.hid HPP
  obtain ⟨A, ca, rfl, hc1, hc2, _⟩ := id h
  obtain ⟨ls, lb, sh⟩ := c
  simp only at h HI HP hil h8 hc1 KC b1 ⊢
  clear hi HPP hs
  obtain ⟨i0, hti, hi0, hi1, hi2⟩ := info_parts (P := Tryz.prog) (e := 9) (z := .string ⟨#[]⟩) (size := 1) (bytes := 16) (by kernel_rfl)
  have hb0 : Below (w.heap.size + 1) (w.alloc (catC (.slice A ls.length ca) v2 v3)) (w.alloc (catC (.slice A ls.length ca) v2 v3)) := Below.refl _ _
  go_enter Tryz.func33, Tryz.ntmps33
  go_wp2_with (at_make; refine stop_intro ?_)
  refine stop_elim ?_
  refine wpList_make_full _ rfl _ _ 22 rfl (w.heap.size + 1) 9 i0 (.string ⟨#[]⟩) 1 Tryz.underlying22 hti hi0 hi1 _ _ _ _ ls.length rfl rfl rfl rfl (by rw [hi2]; omega) (by unfold maxLen; omega) (by simp) ?_
  intro w5 hrow5 hg5
  have eg : (w.alloc (catC (.slice A ls.length ca) v2 v3)).heap.size = w.heap.size + 1 := by simp
  have hown5 : OwnRep 1 (flat strEnc) 9 (w.heap.size + 1) w5 (List.replicate ls.length ⟨#[]⟩) (.slice (some ⟨(w.alloc (catC (.slice A ls.length ca) v2 v3)).heap.size, 0, none⟩) ls.length ls.length) := OwnRep.of_rows (by rw [← madeStrs, List.length_replicate]; exact hrow5)
  rw [eg] at hown5 ⊢
  have hG5 := (hown5.full strS).2
  rw [flatStrs, List.map_replicate] at hG5
  have hb5 : Below (w.heap.size + 1) (w.alloc (catC (.slice A ls.length ca) v2 v3)) w5 := (Below.refl _ _).grown hg5 (by simp) (fun k hk => by cases hk)
  obtain ⟨z0, zl⟩ := KC.out _ hb5
  have hv5 : Strs w5 B ls (.slice A ls.length ca) := h.below strS ((b1.trans (hb5.mono (Nat.le_succ _))).mono hB)
  obtain ⟨X, hX⟩ : ∃ X : List Value, X = ls.map Value.string := ⟨_, rfl⟩
  have hXl : X.length = ls.length := by rw [hX, List.length_map]
  have hpos : 0 < X.length → some (⟨w.heap.size + 1, 0, none⟩ : Addr) = some ⟨w.heap.size + 1, 0, none⟩ ∧ ∃ ad, A = some ad ∧ ∀ j v, X[j]? = some v → w5.cell? (ad.add j) = some v := fun h0 => ⟨rfl, Strs.src hv5 hX h0⟩
  have hsz1 : (Tryz.prog.info? 9).map (·.size) = some 1 := by kernel_rfl
  have hone : ∀ v ∈ X, v.oneCell' = true := by
    intro v hv
    rw [hX] at hv
    obtain ⟨x, _, rfl⟩ := List.mem_map.1 hv
    rfl
  have hmin : X.length = Nat.min ls.length ls.length := by rw [hXl]; exact (Nat.min_self _).symm
  have hfit : 0 + X.length ≤ (List.replicate ls.length (Value.string ⟨#[]⟩)).length := by rw [List.length_replicate, hXl]; omega
  have HX := Lib.hid hX
  have HXL := Lib.hid hXl
  clear hX hXl hown5 hrow5 hg5 eg hti hi0 hi1 hi2
  go_wp2_with (with_reducible refine wpList_copy_splice rfl (.tmp 11) (.tmp 13) 22 22 rfl 9 Tryz.underlying22 hsz1 _ _ _ _ _ _ rfl rfl (w.heap.size + 1) 0 _ 9 hG5 X hmin hpos hfit hone (w.heap.size + 1) _ hb5 (Nat.le_refl _) ?_; intro w6 HG6 hb6)
  have hG6 := HG6.out
  rw [splice_full (by rw [HXL.out, List.length_replicate]), HX.out, ← flatStrs] at hG6
  have hs6 := hb6.size
  simp only [World.size_alloc] at hs6
  have hown6 : OwnRep 1 (flat strEnc) 9 (w.heap.size + 1) w6 ls (.slice (some ⟨w.heap.size + 1, 0, none⟩) ls.length ls.length) := OwnRep.of_full strS rfl (by unfold maxLen; omega) (Nat.le_refl _) hG6
  have HIX := Lib.hid (sindex_c s ls _ w6 (fun b => b < w6.heap.size) (fun _ h => h) (hown6.toSl strS))
  rw [show idxF (fun x => decide (x = s)) ls = (i : Int) from HI.out] at HIX
  rw [flatStrs] at hG6
  have hG7 : w6.drew.heap[w.heap.size + 1]? = some (.cells (ls.map Value.string).toArray 9 (0, 0)) := hG6
  have hb7 : Below (w.heap.size + 1) (w.alloc (catC (.slice A ls.length ca) v2 v3)) w6.drew := hb6.drew
  obtain ⟨Y, hY⟩ : ∃ Y : List Value, Y = (ls.take i).map Value.string := ⟨_, rfl⟩
  have hYl : Y.length = i := by rw [hY, List.length_map, List.length_take]; omega
  have honeY : ∀ v ∈ Y, v.oneCell' = true := by
    intro v hv
    rw [hY] at hv
    obtain ⟨x, _, rfl⟩ := List.mem_map.1 hv
    rfl
  have hminY : Y.length = Nat.min i (ls.length - 1) := by rw [hYl]; exact (Nat.min_eq_left (by omega)).symm
  have hsrcY : 0 < Y.length → ∃ ad, some (⟨w.heap.size + 1, 0, none⟩ : Addr) = some ad ∧ ∀ j v, Y[j]? = some v → w6.drew.cell? (ad.add j) = some v := fun h0 => Strs.src (((hown6.toSl strS).below strS (Below.refl _ _).drew).take_ (Nat.le_of_lt hil)) hY h0
  have HY := Lib.hid hY
  have HYL := Lib.hid hYl
  have hk0 : (0 : Int) ≤ (i : Int) := by omega
  have hk1 : (i : Int) ≤ (ls.length : Int) := by omega
  have hk2 : (1 : Int) ≤ (ls.length : Int) := by omega
  have hfitY : 1 + Y.length ≤ (ls.map Value.string).length := by rw [List.length_map, hYl]; omega
  clear hpos hone hmin hfit HG6 hb5 hG5 hv5 hG6 hY hYl z0 zl
  by_cases hn1 : ls.length = 1
  · obtain rfl : i = 0 := by omega
    have hnoY : 0 < Y.length → False := fun h => by rw [HYL.out] at h; omega
    obtain ⟨a0, rfl⟩ := List.length_eq_one_iff.1 hn1
    simp only [List.length_singleton] at HIX hk1 hk2 hminY
    clear hn1
    go_wp2_with fail
    refine HIX.out.mono ?_
    rintro e w7 ⟨rfl, rfl⟩
    go_wp2
    go_region_held3 (fun _ => True) (trivial) (first
      | (with_reducible refine step_copy_splice rfl (.tmp 19) (.tmp 22) 22 22 rfl 9 Tryz.underlying22 hsz1 _ _ _ _ _ _ rfl rfl (w.heap.size + 1) 1 _ 9 hG7 Y hminY (fun h0 => (hnoY h0).elim) hfitY honeY (w.heap.size + 1) _ hb7 (Nat.le_refl _) ?_; intro w8 HG8 hb8))
    have hG8 := HG8.out
    rw [HY.out, splice_one [a0] hil, ← flatStrs] at hG8
    have hs8 := hb8.size
    simp only [World.size_alloc] at hs8
    have hown8 : OwnRep 1 (flat strEnc) 9 (w.heap.size + 1) w8 ([a0].take 1 ++ ([a0].take 0 ++ [a0].drop (0 + 1))) (.slice (some ⟨w.heap.size + 1, 0, none⟩) [a0].length [a0].length) := OwnRep.of_full strS (by simp) (by unfold maxLen; omega) (Nat.le_refl _) hG8
    obtain ⟨a, ha⟩ := get_at [a0] (show 0 < [a0].length by omega)
    have ha8 : ([a0].take 1 ++ ([a0].take 0 ++ [a0].drop (0 + 1)))[0]? = some a := by simpa using ha
    have hset := hown8.set_ (j := 0) (x' := s) strS ha8 (by omega) rfl
    have hLs : ([a0].take 1 ++ ([a0].take 0 ++ [a0].drop (0 + 1))).set 0 s = s :: ([a0].take 0 ++ [a0].drop (0 + 1)) := by
      rfl
    rw [hLs] at hset
    have c0 : w8.cell? ⟨w.heap.size + 1, 0, none⟩ = some (.string a) := by
      obtain ⟨b, off, e, _, hc⟩ := Strs.at_ (hown8.toSl strS) ha8
      injection e with e
      injection e with e1 e2
      rw [e1]; simpa [← e2] using hc
    have f0 : w8.frozen? ⟨w.heap.size + 1, 0, none⟩ = false := by simp [World.frozen?, hG8]
    clear hG8 HG8 hown8 ha8 ha
    go_wp2
    go_ret
    exact ⟨_, rfl, by rw [HP.out]; simpa using hset.base_le (Nat.le_succ _), b1.trans ((hb8.setCell (p := ⟨w.heap.size + 1, 0, none⟩) (Nat.le_refl _) _).mono (Nat.le_succ _))⟩
  · have HSRC := Lib.hid hsrcY
    clear hsrcY
    go_wp2_with fail
    refine HIX.out.mono ?_
    rintro e w7 ⟨rfl, rfl⟩
    go_wp2
    go_region_held3 (fun _ => True) (trivial) (first
      | (with_reducible refine step_copy_splice rfl (.tmp 19) (.tmp 22) 22 22 rfl 9 Tryz.underlying22 hsz1 _ _ _ _ _ _ rfl rfl (w.heap.size + 1) 1 _ 9 hG7 Y hminY (fun h0 => ⟨rfl, HSRC.out h0⟩) hfitY honeY (w.heap.size + 1) _ hb7 (Nat.le_refl _) ?_; intro w8 HG8 hb8))
    have hG8 := HG8.out
    rw [HY.out, splice_one ls hil, ← flatStrs] at hG8
    have hs8 := hb8.size
    simp only [World.size_alloc] at hs8
    have hown8 : OwnRep 1 (flat strEnc) 9 (w.heap.size + 1) w8 (ls.take 1 ++ (ls.take i ++ ls.drop (i + 1))) (.slice (some ⟨w.heap.size + 1, 0, none⟩) ls.length ls.length) := OwnRep.of_full strS (by simp; omega) (by unfold maxLen; omega) (Nat.le_refl _) hG8
    obtain ⟨a, ha⟩ := get_at ls (show 0 < ls.length by omega)
    have ha8 : (ls.take 1 ++ (ls.take i ++ ls.drop (i + 1)))[0]? = some a := by rw [List.getElem?_append_left (by simp; omega), List.getElem?_take, if_pos (by omega)]; exact ha
    have hset := hown8.set_ (j := 0) (x' := s) strS ha8 (by omega) rfl
    have hLs : (ls.take 1 ++ (ls.take i ++ ls.drop (i + 1))).set 0 s = s :: (ls.take i ++ ls.drop (i + 1)) := by
      rw [List.set_append_left _ _ (by simp; omega)]
      cases ls with
      | nil => simp at hil
      | cons x r => rfl
    rw [hLs] at hset
    have c0 : w8.cell? ⟨w.heap.size + 1, 0, none⟩ = some (.string a) := by
      obtain ⟨b, off, e, _, hc⟩ := Strs.at_ (hown8.toSl strS) ha8
      injection e with e
      injection e with e1 e2
      rw [e1]; simpa [← e2] using hc
    have f0 : w8.frozen? ⟨w.heap.size + 1, 0, none⟩ = false := by simp [World.frozen?, hG8]
    clear hG8 HG8 hown8 ha8 ha
    go_wp2
    go_ret
    exact ⟨_, rfl, by rw [HP.out]; simpa using hset.base_le (Nat.le_succ _), b1.trans ((hb8.setCell (p := ⟨w.heap.size + 1, 0, none⟩) (Nat.le_refl _) _).mono (Nat.le_succ _))⟩
end Go.Proofs.YtbmlnflacdockaaGreatDoor
