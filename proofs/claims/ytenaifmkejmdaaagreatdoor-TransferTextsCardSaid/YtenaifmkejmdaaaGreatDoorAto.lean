/- The program: Atoi at any text; Split; strings of a slice. -/
import Derived.Test.YtenaifmkejmdaaaGreatDoorVar
import Derived.Test.YtenaifmkejmdaaaGreatDoorLin
import Derived.Test.YtenaifmkejmdaaaGreatDoorPrsN
namespace Go.Proofs.YtenaifmkejmdaaaGreatDoor
open Go.RowKit

theorem atoi_in {l : List UInt8} {v : Int} (h : Lib.atoiAll l = .ok v) : -9223372036854775808 ≤ v ∧ v ≤ 9223372036854775807 := by
  unfold Lib.atoiAll at h
  cases l with
  | nil => cases h
  | cons c r =>
    simp only at h
    split at h
    · cases h
    · cases h
    · rename_i u _
      split at h
      · cases h
      · split at h
        · cases h
        · injection h with h
          rename_i h1 h2
          by_cases hc : c.toNat = 45
          · rw [if_pos hc] at h
            have : ¬ 9223372036854775808 < u := fun hh => h2 ⟨hc, hh⟩
            omega
          · rw [if_neg hc] at h
            have : ¬ 9223372036854775808 ≤ u := fun hh => h1 ⟨hc, hh⟩
            omega
theorem atoi_c (s : ByteArray) (w : World) (hs : s.size ≤ 1000000) (hV : VarOk w) :
    Calls Tryz.prog 67 #[.string s] w fun e w' => Below w.heap.size w w' ∧ ((∃ v : Int, e = .returned (.tuple #[.int .i64 v, .nilIface]) ∧ (-9223372036854775808 ≤ v ∧ v ≤ 9223372036854775807) ∧ ∀ n, numO s.data.toList = some n → v = n) ∨ (∃ (v : Int) (t : TypeId) (p : Value), e = .returned (.tuple #[.int .i64 v, .iface t p]) ∧ numO s.data.toList = none)) := by
  obtain ⟨-, -, ⟨e1, h1, h2⟩, ⟨e2, h3, h4⟩⟩ := hV
  have hno : ∀ n, numO s.data.toList = some n → Lib.atoiAll s.data.toList = .ok (n : Int) := fun n hn => (num_atoi hn).1
  cases ha : Lib.atoiAll s.data.toList with
  | ok v =>
    refine (Tryz.strconv_Atoi_ok s (by omega) v ha w).mono ?_
    rintro e w' ⟨rfl, hw⟩
    refine ⟨?_, .inl ⟨v, rfl, atoi_in ha, fun n hn => ?_⟩⟩
    · rcases hw with rfl | ⟨t, rfl⟩
      · exact Below.refl _ _
      · exact Lib.bytesWorld_below w 5 t
    · have := (hno n hn).symm.trans ha
      injection this with this
      exact this.symm
  | range =>
    refine (Tryz.strconv_Atoi_range s (by omega) ha e2 w h3 h4).mono ?_
    rintro e w' ⟨N, rfl, -, -, hb⟩
    refine ⟨hb, .inr ⟨_, _, _, rfl, ?_⟩⟩
    cases hn : numO s.data.toList with
    | none => rfl
    | some n => have := (hno n hn).symm.trans ha; cases this
  | _ =>
    refine (Tryz.strconv_Atoi_syntax s (by omega) ha e1 w h1 h2).mono ?_
    rintro e w' ⟨N, rfl, -, -, hb⟩
    refine ⟨hb, .inr ⟨_, _, _, rfl, ?_⟩⟩
    cases hn : numO s.data.toList with
    | none => rfl
    | some n => have := (hno n hn).symm.trans ha; cases this
theorem sl_str {w : World} {F : Nat → Prop} {xs : List ByteArray} {A : Option Addr} {n c i : Nat} {x : ByteArray} (h : SlRep 1 (flat strEnc) w F xs (.slice A n c)) (hx : xs[i]? = some x) : ∃ b off, A = some ⟨b, off, none⟩ ∧ F b ∧ w.cell? ⟨b, off + i, none⟩ = some (.string x) := by
  obtain ⟨A', c', e, -, -, h3⟩ := h
  cases e
  obtain ⟨b, off, cs, hA, hF, hr, hc⟩ := h3 i x hx
  refine ⟨b, off, hA, hF, ?_⟩
  have hcs : cs = strEnc x := hr
  have := hc 0 (.string x) (by rw [hcs]; rfl)
  simpa using this
/-- the strings of a row that has just been laid -/
theorem sl_new {w : World} {g : Nat} {ts : List ByteArray} {cs : Array Value} {t : TypeId} {fz : Nat × Nat} (hg : w.heap[g]? = some (.cells cs t fz)) (hc : ∀ (i : Nat) x, ts[i]? = some x → cs[i]? = some (.string x)) (c : Nat) (h1 : ts.length ≤ c) (h2 : c ≤ 9223372036854775807) : SlRep 1 (flat strEnc) w (fun b => b = g) ts (.slice (some ⟨g, 0, none⟩) ts.length c) := by
  refine ⟨_, c, rfl, h1, h2, fun i x hx => ⟨g, 0, strEnc x, rfl, rfl, rfl, fun j u hu => ?_⟩⟩
  rcases j with _ | j
  · simp [strEnc] at hu
    subst hu
    rw [Lib.cell_of_heap hg]
    simp [hc i x hx]
  · simp [strEnc] at hu
/-- a part of a row -/
theorem sl_part {w : World} {F : Nat → Prop} {ts : List ByteArray} {g off n c : Nat} (h : SlRep 1 (flat strEnc) w F ts (.slice (some ⟨g, off, none⟩) n c)) (a m c' : Nat) (hm : a + m ≤ ts.length) (h1 : m ≤ c') (h2 : c' ≤ 9223372036854775807) : SlRep 1 (flat strEnc) w F ((ts.drop a).take m) (.slice (some ⟨g, off + a, none⟩) m c') := by
  have hl : ((ts.drop a).take m).length = m := by rw [List.length_take, List.length_drop]; omega
  refine ⟨_, c', by rw [hl], by omega, h2, fun i x hx => ?_⟩
  have hi := lt_of_at hx
  rw [hl] at hi
  have hx2 : ts[a + i]? = some x := by
    rw [List.getElem?_take_of_lt hi, List.getElem?_drop] at hx
    exact hx
  obtain ⟨b, o, e, hF, hc⟩ := sl_str h hx2
  cases e
  refine ⟨g, off + a, strEnc x, rfl, hF, rfl, fun j u hu => ?_⟩
  rcases j with _ | j
  · simp [strEnc] at hu
    subst hu
    rw [show off + a + i * 1 + 0 = off + (a + i) by omega]
    exact hc
  · simp [strEnc] at hu
def splB (c : UInt8) (s : ByteArray) : List ByteArray := Lib.splitB ⟨#[c]⟩ 0 (Lib.countB s ⟨#[c]⟩) s
def splBN (c : UInt8) (n : Nat) (s : ByteArray) : List ByteArray := Lib.splitB ⟨#[c]⟩ 0 (min (n + 1) (s.size + 1) - 1) s
theorem splB_is (c : UInt8) (s : ByteArray) : (splB c s).map (fun x => x.data.toList) = splG c [] s.data.toList := split_all c s
theorem splBN_is (c : UInt8) (n : Nat) (s : ByteArray) : (splBN c n s).map (fun x => x.data.toList) = splN c n [] s.data.toList := split_n c n s
theorem splB_len (c : UInt8) (s : ByteArray) : (splB c s).length = Lib.countB s ⟨#[c]⟩ + 1 := by
  have := congrArg List.length (splB_is c s)
  rw [List.length_map, splG_len] at this
  rw [this]
  congr 1
  exact (Lib.count_one c s.data.toList).symm
theorem splBN_len (c : UInt8) (n : Nat) (s : ByteArray) : (splBN c n s).length ≤ n + 1 := by
  have := congrArg List.length (splBN_is c n s)
  rw [List.length_map, splN_len] at this
  omega
theorem splB_lt (c : UInt8) (s : ByteArray) : (splB c s).length ≤ s.size + 1 := by
  have := congrArg List.length (splB_is c s)
  rw [List.length_map, splG_len] at this
  have h2 := List.count_le_length (a := c) (l := s.data.toList)
  have h3 : s.data.toList.length = s.size := Array.length_toList
  omega
theorem split_c (c : UInt8) (s : ByteArray) (w : World) (hs : s.size ≤ 1000000) (hV : VarOk w) :
    Calls Tryz.prog 45 #[.string s, .string ⟨#[c]⟩] w fun e w' => e = .returned (.slice (some ⟨w.heap.size, 0, none⟩) (splB c s).length (splB c s).length) ∧ SlRep 1 (flat strEnc) w' (fun b => b = w.heap.size) (splB c s) (.slice (some ⟨w.heap.size, 0, none⟩) (splB c s).length (splB c s).length) ∧ Below w.heap.size w w' ∧ w'.heap.size = w.heap.size + 1 := by
  obtain ⟨⟨m, hm⟩, -, -, -⟩ := hV
  have hl := splB_len c s
  have hl2 := splB_lt c s
  refine (Tryz.strings_Split s ⟨#[c]⟩ m w (by omega) hm (Nat.le_refl _)).mono ?_
  rintro e w' ⟨rfl, rfl⟩
  refine ⟨by rw [hl], ?_, (Below.refl _ _).alloc (Nat.le_refl _) _, by simp⟩
  refine sl_new (g := w.heap.size) (cs := ((splB c s).map Value.string).toArray) (t := 9) (fz := (0, 0)) ?_ (fun i x hx => ?_) _ (Nat.le_refl _) (by omega)
  · show (w.heap.push _)[w.heap.size]? = _
    simp [splB]
  · simp [hx]
theorem splitN_c (c : UInt8) (n : Nat) (s : ByteArray) (w : World) (hs : s.size ≤ 1000000) (hn : n ≤ 1000000) (hV : VarOk w) :
    Calls Tryz.prog 68 #[.string s, .string ⟨#[c]⟩, .int .i64 ((n + 1 : Nat) : Int)] w fun e w' => (∃ k, e = .returned (.slice (some ⟨w.heap.size, 0, none⟩) (splBN c n s).length k) ∧ (splBN c n s).length ≤ k ∧ k ≤ 9223372036854775807 ∧ SlRep 1 (flat strEnc) w' (fun b => b = w.heap.size) (splBN c n s) (.slice (some ⟨w.heap.size, 0, none⟩) (splBN c n s).length k)) ∧ Below w.heap.size w w' ∧ w'.heap.size = w.heap.size + 1 := by
  obtain ⟨⟨m, hm⟩, -, -, -⟩ := hV
  have hle : (splBN c n s).length ≤ min (n + 1) (s.size + 1) := by
    have := congrArg List.length (splBN_is c n s)
    rw [List.length_map, splN_len] at this
    have h2 := List.count_le_length (a := c) (l := s.data.toList)
    have h3 : s.data.toList.length = s.size := Array.length_toList
    omega
  refine (Tryz.strings_SplitN s ⟨#[c]⟩ (n + 1) m w (by omega) hm (Nat.le_refl _) (by omega) (by omega)).mono ?_
  rintro e w' ⟨rfl, rfl⟩
  refine ⟨⟨_, rfl, hle, by omega, ?_⟩, (Below.refl _ _).alloc (Nat.le_refl _) _, by simp⟩
  refine sl_new (g := w.heap.size) (cs := Lib.cellsOf (splBN c n s) (min (n + 1) (s.size + 1))) (t := 9) (fz := (0, 0)) ?_ (fun i x hx => ?_) _ hle (by omega)
  · show (w.heap.push _)[w.heap.size]? = _
    simp [splBN]
  · have hi := lt_of_at hx
    unfold Lib.cellsOf
    rw [List.getElem?_toArray, List.getElem?_append_left (by rw [List.length_map]; exact hi), List.getElem?_map, hx]
    rfl
end Go.Proofs.YtenaifmkejmdaaaGreatDoor
