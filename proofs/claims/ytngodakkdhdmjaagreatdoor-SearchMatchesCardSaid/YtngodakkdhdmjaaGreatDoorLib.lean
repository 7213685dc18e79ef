/- slices, cmp and small functions of chapter 47. -/
import Derived.Test.YtngodakkdhdmjaaGreatDoorDat
import Derived.Laws.StructEq
namespace Go.Proofs.YtngodakkdhdmjaaGreatDoor
open Go.RowKit

theorem SlRep.none_nil {α : Type} {k : Nat} {R : CRep α} {w : World} {F : Nat → Prop} {xs : List α} {n c : Nat} (h : SlRep k R w F xs (.slice none n c)) : xs = [] ∧ n = 0 := by
  obtain ⟨A', c', e', _, _, h3⟩ := h
  injection e' with e1 e2
  rcases xs with _ | ⟨y, ys⟩
  · exact ⟨rfl, e2⟩
  · obtain ⟨_, _, _, hA, _⟩ := h3 0 y rfl
    rw [← e1] at hA
    cases hA
theorem SlRep.drewN {α : Type} {k : Nat} {R : CRep α} {w : World} {F : Nat → Prop} {xs : List α} {v : Value} (hR : Shape k R) (h : SlRep k R w F xs v) (n : Nat) : SlRep k R (w.drewN n) F xs v := SlRep.frame (w := w) hR (fun _ _ => rfl) h
theorem below_of_drew {w w' : World} (B : Nat) (h : ∃ n, w' = w.drewN n) : Below B w w' := by
  obtain ⟨n, rfl⟩ := h
  exact below_drewN (Below.refl _ _) n
theorem Calls.below_of {P : Program} {f : FuncId} {args : Array Value} {w : World} {v : Value} (h : Calls P f args w fun e w' => e = .returned v ∧ ∃ n, w' = w.drewN n) : Calls P f args w fun e w' => e = .returned v ∧ Below w.heap.size w w' :=
  h.mono fun _ _ ⟨he, hw⟩ => ⟨he, below_of_drew _ hw⟩
theorem Calls.below_same {P : Program} {f : FuncId} {args : Array Value} {w : World} {v : Value} (h : Calls P f args w fun e w' => e = .returned v ∧ w = w') : Calls P f args w fun e w' => e = .returned v ∧ Below w.heap.size w w' :=
  h.mono fun _ _ ⟨he, hw⟩ => ⟨he, hw ▸ Below.refl _ _⟩
theorem quiet_add {P : Program} {f : FuncId} {args : Array Value} {w : World} {a n : Nat} {v : Value}
    (h : Calls P f args (w.drewN (a + n)) fun e w' => e = .returned v ∧ ∃ m, w' = (w.drewN (a + n)).drewN m) :
    Calls P f args (w.drewN (a + n)) fun e w'' => e = .returned v ∧ ∃ m, w'' = w.drewN (a + m) :=
  h.mono fun _ _ ⟨he, m, hm⟩ => ⟨he, n + m, by rw [hm, World.drewN_drewN, Nat.add_assoc]⟩
def eqL {α : Type} (e : α → α → Bool) : List α → List α → Bool
  | [], [] => true
  | x :: r, y :: s => e x y && eqL e r s
  | _, _ => false
theorem eqL_iff {α : Type} {e : α → α → Bool} (he : ∀ x y, e x y = true ↔ x = y) : ∀ a b : List α, eqL e a b = true ↔ a = b
  | [], [] => by simp [eqL]
  | [], _ :: _ => by simp [eqL]
  | _ :: _, [] => by simp [eqL]
  | x :: r, y :: s => by simp [eqL, he, eqL_iff he r s]
theorem eqL_self {α : Type} {e : α → α → Bool} (he : ∀ x y, e x y = true ↔ x = y) (a : List α) : eqL e a a = true := (eqL_iff he a a).2 rfl
theorem eqL_len {α : Type} (e : α → α → Bool) : ∀ a b : List α, a.length ≠ b.length → eqL e a b = false
  | [], [], h => by simp at h
  | [], _ :: _, _ => rfl
  | _ :: _, [], _ => rfl
  | x :: r, y :: s, h => by rw [eqL, eqL_len e r s (by simpa using h), Bool.and_false]
def eqI (x y : Int) : Bool := decide (x = y)
theorem eqI_iff (x y : Int) : eqI x y = true ↔ x = y := by simp [eqI]
def eqB (x y : ByteArray) : Bool := decide (x = y)
theorem eqB_iff (x y : ByteArray) : eqB x y = true ↔ x = y := by simp [eqB]
def cmpS (a b : ByteArray) : Int := if lessB a b then -1 else if a = b then 0 else 1
def cmpI (a b : Int) : Int := if a < b then -1 else if b < a then 1 else 0

theorem cmpS_c (a b : ByteArray) (w : World) : Calls Tryz.prog 44 #[.string a, .string b] w fun e w' => e = .returned (.int .i64 (cmpS a b)) ∧ w = w' := by
  by_cases hab : a = b
  · subst hab
    cases hl : Op.bytesLess a.toList a.toList
    · have HE := Lib.hid (show cmpS a a = 0 by simp [cmpS, lessB, hl])
      go_enter Tryz.func44, Tryz.ntmps44
      go_wp2
      go_ret
      exact ⟨ret_int HE.out.symm, rfl⟩
    · have HE := Lib.hid (show cmpS a a = -1 by simp [cmpS, lessB, hl])
      go_enter Tryz.func44, Tryz.ntmps44
      go_wp2
      go_ret
      exact ⟨ret_int HE.out.symm, rfl⟩
  · have hne : (a.toList == b.toList) = false := by rw [str_eq]; simpa using hab
    have hne2 : ¬ a.toList = b.toList := by rw [str_iff]; exact hab
    cases hl : Op.bytesLess a.toList b.toList
    · have HE := Lib.hid (show cmpS a b = 1 by simp [cmpS, lessB, hl, hab])
      go_enter Tryz.func44, Tryz.ntmps44
      go_wp2
      go_ret
      exact ⟨ret_int HE.out.symm, rfl⟩
    · have HE := Lib.hid (show cmpS a b = -1 by simp [cmpS, lessB, hl])
      go_enter Tryz.func44, Tryz.ntmps44
      go_wp2
      go_ret
      exact ⟨ret_int HE.out.symm, rfl⟩

theorem cmpI_c (a b : Int) (w : World) : Calls Tryz.prog 43 #[.int .i64 a, .int .i64 b] w fun e w' => e = .returned (.int .i64 (cmpI a b)) ∧ w = w' := by
  by_cases h1 : a < b
  · have HE := Lib.hid (show cmpI a b = -1 by simp [cmpI, h1])
    go_enter Tryz.func43, Tryz.ntmps43
    go_wp2
    go_ret
    exact ⟨ret_int HE.out.symm, rfl⟩
  · by_cases h2 : b < a
    · have HE := Lib.hid (show cmpI a b = 1 by simp [cmpI, h1, h2])
      go_enter Tryz.func43, Tryz.ntmps43
      go_wp2
      go_ret
      exact ⟨ret_int HE.out.symm, rfl⟩
    · have HE := Lib.hid (show cmpI a b = 0 by simp [cmpI, h1, h2])
      go_enter Tryz.func43, Tryz.ntmps43
      go_wp2
      go_ret
      exact ⟨ret_int HE.out.symm, rfl⟩

def or2 (a b : Int) : Int := if a ≠ 0 then a else b
theorem or_c (a b : Int) (g : Nat) (w : World) (h0 : w.cell? ⟨g, 0, none⟩ = some (.int .i64 a)) (h1 : w.cell? ⟨g, 1, none⟩ = some (.int .i64 b)) :
    Calls Tryz.prog 42 #[.slice (some ⟨g, 0, none⟩) 2 2] w fun e w' => e = .returned (.int .i64 (or2 a b)) ∧ w = w' := by
  by_cases ha : a = 0
  · have HE := Lib.hid (show or2 a b = b by simp [or2, ha])
    subst ha
    by_cases hb : b = 0
    · subst hb
      go_enter Tryz.func42, Tryz.ntmps42
      go_wp2
      go_rounds 3
      go_ret
      exact ⟨ret_int HE.out.symm, rfl⟩
    · have hb1 : (b != 0) = true := by simpa using hb
      have hb2 : (b == 0) = false := by simpa using hb
      go_enter Tryz.func42, Tryz.ntmps42
      go_wp2
      go_rounds 3
      go_ret
      exact ⟨ret_int HE.out.symm, rfl⟩
  · have HE := Lib.hid (show or2 a b = a by simp [or2, ha])
    have hb1 : (a != 0) = true := by simpa using ha
    have hb2 : (a == 0) = false := by simpa using ha
    go_enter Tryz.func42, Tryz.ntmps42
    go_wp2
    go_rounds 3
    go_ret
    exact ⟨ret_int HE.out.symm, rfl⟩


set_option maxHeartbeats 1000000 in
theorem sindex_c (m : ByteArray) (xs : List ByteArray) (v : Value) (w : World) (F : Nat → Prop) (hF : ∀ b, F b → b < w.heap.size) (h : SlRep 1 (flat strEnc) w F xs v) :
    Calls Tryz.prog 104 #[v, .string m] w fun e w' => e = .returned (.int .i64 (idxF (fun x => decide (x = m)) xs)) ∧ w = w' := by
  obtain ⟨A, c, rfl, hc1, hc2, _⟩ := id h
  have HF := Lib.hid (show idxF (fun x => decide (x = m)) xs = idxG (fun x => decide (x = m)) (xs.drop 0) 0 from rfl)
  go_enter Tryz.func104, Tryz.ntmps104
  go_wp2
  go_loop [8] (fun i => ∃ k : Nat, k ≤ xs.length ∧ i = .int .i64 k ∧ Hid (idxF (fun x => decide (x = m)) xs = idxG (fun x => decide (x = m)) (xs.drop k) k)) (fun i => xs.length - (intOf i).toNat)
  case atStart => exact ⟨0, Nat.zero_le _, rfl, HF⟩
  case round =>
    obtain ⟨k, hk, rfl, HS⟩ := hrel
    clear HF
    by_cases hlt : k < xs.length
    · obtain ⟨x, hx⟩ := get_at xs hlt
      have HD := Lib.hid (drop_at hx)
      obtain ⟨b, off, rfl, hbB, g0⟩ := Strs.at_ h hx
      have hbw : b < w.heap.size := hF b hbB
      clear hx
      by_cases hxm : x = m
      · have he : m.toList = x.toList := by rw [hxm]
        have he2 : (m.toList == x.toList) = true := by simp [he]
        have HX := Lib.hid hxm
        clear hxm
        go_wp2
        go_ret
        exact ⟨ret_int (by rw [HS.out, HD.out]; simp [idxG, HX.out]), rfl⟩
      · have he : ¬ m.toList = x.toList := by rw [str_iff]; exact fun h => hxm h.symm
        have he2 : (m.toList == x.toList) = false := by simp [he]
        have HX := Lib.hid hxm
        clear hxm
        go_wp2
        go_round
        case rel => exact ⟨k + 1, by omega, by go_num, by show _ = _; rw [HS.out, HD.out]; simp [idxG, HX.out]⟩
        case measure => simp [intOf]; omega
    · go_wp2
      go_ret
      exact ⟨ret_int (by rw [HS.out, List.drop_of_length_le (by omega)]; rfl), rfl⟩
theorem scontains_c (m : ByteArray) (xs : List ByteArray) (v : Value) (w : World) (F : Nat → Prop) (hF : ∀ b, F b → b < w.heap.size) (h : SlRep 1 (flat strEnc) w F xs v) :
    Calls Tryz.prog 62 #[v, .string m] w fun e w' => e = .returned (.bool (xs.any fun x => decide (x = m))) ∧ w = w' := by
  obtain ⟨A, c, rfl, hc1, hc2, _⟩ := id h
  have HE := Lib.hid (idx_any (fun x => decide (x = m)) xs)
  go_enter Tryz.func62, Tryz.ntmps62
  go_wp2_with fail
  refine (sindex_c m xs _ _ F hF h).mono ?_
  rintro e w1 ⟨rfl, rfl⟩
  go_wp2
  go_ret
  exact ⟨ret_bool (by rw [← HE.out]), rfl⟩

set_option maxHeartbeats 1000000 in
theorem iindex_c (m : Int) (xs : List Int) (v : Value) (w : World) (F : Nat → Prop) (hF : ∀ b, F b → b < w.heap.size) (h : SlRep 1 (flat intEnc) w F xs v) :
    Calls Tryz.prog 144 #[v, .int .i64 m] w fun e w' => e = .returned (.int .i64 (idxF (fun x => decide (x = m)) xs)) ∧ w = w' := by
  obtain ⟨A, c, rfl, hc1, hc2, _⟩ := id h
  have HF := Lib.hid (show idxF (fun x => decide (x = m)) xs = idxG (fun x => decide (x = m)) (xs.drop 0) 0 from rfl)
  go_enter Tryz.func144, Tryz.ntmps144
  go_wp2
  go_loop [8] (fun i => ∃ k : Nat, k ≤ xs.length ∧ i = .int .i64 k ∧ Hid (idxF (fun x => decide (x = m)) xs = idxG (fun x => decide (x = m)) (xs.drop k) k)) (fun i => xs.length - (intOf i).toNat)
  case atStart => exact ⟨0, Nat.zero_le _, rfl, HF⟩
  case round =>
    obtain ⟨k, hk, rfl, HS⟩ := hrel
    clear HF
    by_cases hlt : k < xs.length
    · obtain ⟨x, hx⟩ := get_at xs hlt
      have HD := Lib.hid (drop_at hx)
      obtain ⟨b, off, rfl, hbB, g0⟩ := Ints.at_ h hx
      have hbw : b < w.heap.size := hF b hbB
      clear hx
      by_cases hxm : x = m
      · have he2 : (m == x) = true := by simp [hxm]
        have he3 : (x == m) = true := by simp [hxm]
        have HX := Lib.hid hxm
        clear hxm
        go_wp2
        go_ret
        exact ⟨ret_int (by rw [HS.out, HD.out]; simp [idxG, HX.out]), rfl⟩
      · have he2 : (m == x) = false := by simpa using fun h : m = x => hxm h.symm
        have he3 : (x == m) = false := by simpa using hxm
        have HX := Lib.hid hxm
        clear hxm
        go_wp2
        go_round
        case rel => exact ⟨k + 1, by omega, by go_num, by show _ = _; rw [HS.out, HD.out]; simp [idxG, HX.out]⟩
        case measure => simp [intOf]; omega
    · go_wp2
      go_ret
      exact ⟨ret_int (by rw [HS.out, List.drop_of_length_le (by omega)]; rfl), rfl⟩

theorem find1_c (u : Int) (g : Nat) (x : Sheet) (vf : Value) (hvf : ∃ A n c, vf = .slice A n c) (w : World) (h0 : w.cell? ⟨g, 0, none⟩ = some (.int .i64 u)) (hg : g < w.heap.size) :
    Calls Tryz.prog 159 #[.agg #[.int .i64 x.unit, .int .i64 x.parent, .int .i64 x.level, .string x.mark, .string x.title, vf], .pointer (some ⟨g, 0, none⟩)] w fun e w' => e = .returned (.bool (decide (x.unit = u))) ∧ Below w.heap.size w w' := by
  obtain ⟨A, n, c, rfl⟩ := hvf
  by_cases hxu : x.unit = u
  · have he : (x.unit == u) = true := by simp [hxu]
    have HE := Lib.hid (show decide (x.unit = u) = true by simp [hxu])
    clear hxu
    go_enter Tryz.func159, Tryz.ntmps159
    go_wp2
    go_ret
    exact ⟨ret_bool HE.out.symm, (Below.refl _ _).alloc (Nat.le_refl _) _⟩
  · have he : (x.unit == u) = false := by simpa using hxu
    have HE := Lib.hid (show decide (x.unit = u) = false by simp [hxu])
    clear hxu
    go_enter Tryz.func159, Tryz.ntmps159
    go_wp2
    go_ret
    exact ⟨ret_bool HE.out.symm, (Below.refl _ _).alloc (Nat.le_refl _) _⟩

set_option maxHeartbeats 1000000 in
theorem indexSh_c (c0 : Value) (p : Sheet → Bool) (xs : List Sheet) (v : Value) (w : World) (B : Nat) (hB : B ≤ w.heap.size) (h : SlRep 6 shtR w (fun b => b < B) xs v)
    (hp : ∀ (x : Sheet) (vf : Value) (W : World), Below w.heap.size w W → (∃ A n c, vf = .slice A n c) → Calls Tryz.prog 159 #[.agg #[.int .i64 x.unit, .int .i64 x.parent, .int .i64 x.level, .string x.mark, .string x.title, vf], c0] W fun e w' => e = .returned (.bool (p x)) ∧ Below W.heap.size W w') :
    Calls Tryz.prog 68 #[v, .func (.func 159) #[] #[c0]] w fun e w' => e = .returned (.int .i64 (idxF p xs)) ∧ Below w.heap.size w w' := by
  obtain ⟨A, c, rfl, hc1, hc2, _⟩ := id h
  have HP := Lib.hid hp
  clear hp
  have HF := Lib.hid (show idxF p xs = idxG p (xs.drop 0) 0 from rfl)
  go_enter Tryz.func68, Tryz.ntmps68
  go_wp2
  go_loopw [8] (fun i wr => ∃ k : Nat, k ≤ xs.length ∧ i = .int .i64 k ∧ Hid (idxF p xs = idxG p (xs.drop k) k) ∧ Below w.heap.size w wr) (fun i _ => xs.length - (intOf i).toNat)
  case atStart => exact ⟨0, Nat.zero_le _, rfl, HF, Below.refl _ _⟩
  case round =>
    obtain ⟨k, hk, rfl, HS, hb⟩ := hrel
    clear HF
    have hs := hb.size
    by_cases hlt : k < xs.length
    · obtain ⟨x, hx⟩ := get_at xs hlt
      have HD := Lib.hid (drop_at hx)
      obtain ⟨b, off, vf, rfl, hbB, g0, g1, g2, g3, g4, g5, hvf⟩ := Sheets.at_ (h.below shtS (hb.mono hB)) hx
      have hbw : b < wr.heap.size := by have : b < B := hbB; omega
      clear hx
      go_wp2_with fail
      refine (HP.out x vf wr hb (have ⟨_, _, e9, _⟩ := hvf; ⟨_, _, _, e9⟩)).mono ?_
      rintro e w1 ⟨rfl, hb1⟩
      cases hpx : p x
      · go_wp2
        go_roundw
        case rel => exact ⟨k + 1, by omega, by go_num, by show _ = _; rw [HS.out, HD.out]; simp [idxG, hpx], hb.trans (hb1.mono hs)⟩
        case measure => simp [intOf]; omega
      · go_wp2
        go_ret
        exact ⟨ret_int (by rw [HS.out, HD.out]; simp [idxG, hpx]), hb.trans (hb1.mono hs)⟩
    · go_wp2
      go_ret
      exact ⟨ret_int (by rw [HS.out, List.drop_of_length_le (by omega)]; rfl), hb⟩

set_option maxHeartbeats 1000000 in
theorem find_c (xs : List Sheet) (u : Int) (v : Value) (w : World) (B : Nat) (hB : B ≤ w.heap.size) (h : Sheets w B xs v) :
    Calls Tryz.prog 110 #[v, .int .i64 u] w fun e w' => e = .returned (.int .i64 (shtIx xs u)) ∧ Below w.heap.size w w' := by
  have b1 : Below w.heap.size w (w.alloc (.cells #[.int .i64 u] 3)) := (Below.refl _ _).alloc (Nat.le_refl _) _
  have HI := Lib.hid (indexSh_c (.pointer (some ⟨w.heap.size, 0, none⟩)) (fun s => decide (s.unit = u)) xs v (w.alloc (.cells #[.int .i64 u] 3)) w.heap.size (by simp) ((h.below shtS (b1.mono hB)).mono shtS hB)
    (fun x vf W hW hvf => find1_c u w.heap.size x vf hvf W ((hW.cell (p := ⟨w.heap.size, 0, none⟩) (by simp)).trans (by simp)) (by have := hW.size; simp at this; omega)))
  go_enter Tryz.func110, Tryz.ntmps110
  go_wp2_with fail
  refine HI.out.mono ?_
  rintro e w1 ⟨rfl, hb1⟩
  go_wp2
  go_ret
  exact ⟨rfl, b1.trans (hb1.mono (by simp))⟩
set_option maxHeartbeats 1000000 in
theorem two_c (s : ByteArray) (w : World) : Calls Tryz.prog 143 #[.string s] w fun e w' => e = .returned (.bool (letB s)) ∧ w = w' := by
  by_cases hs : s.size = 2
  · obtain ⟨a, b, rfl⟩ : ∃ a b : UInt8, s = ⟨#[a, b]⟩ := by
      obtain ⟨⟨l⟩⟩ := s
      match l, hs with
      | [a, b], _ => exact ⟨a, b, rfl⟩
    clear hs
    have e0 : (⟨#[a, b]⟩ : ByteArray)[0]'(Nat.zero_lt_succ 1) = a := rfl
    have e1 : (⟨#[a, b]⟩ : ByteArray)[1]'(Nat.lt_succ_self 1) = b := rfl
    have HE := Lib.hid (show letB ⟨#[a, b]⟩ = (decide (97 ≤ a.toNat) && decide (a.toNat ≤ 122) && decide (97 ≤ b.toNat) && decide (b.toNat ≤ 122)) from rfl)
    go_enter Tryz.func143, Tryz.ntmps143
    go_wp2
    all_goals
      go_ret
      refine ⟨ret_bool ?_, rfl⟩
      rw [HE.out]
      simp only [e0, e1] at *
      rw [Bool.eq_iff_iff]
      simp only [Bool.and_eq_true, decide_eq_true_eq, Bool.false_eq_true, false_iff]
      omega
  · have HE := Lib.hid (show letB s = false by
      obtain ⟨⟨l⟩⟩ := s
      match l, hs with
      | [], _ => rfl
      | [_], _ => rfl
      | _ :: _ :: _ :: _, _ => rfl)
    have h2 : ((s.size : Int) == 2) = false := by simp; omega
    clear hs
    go_enter Tryz.func143, Tryz.ntmps143
    go_wp2
    go_ret
    exact ⟨ret_bool HE.out.symm, rfl⟩
end Go.Proofs.YtngodakkdhdmjaaGreatDoor
