/- slices.Index, Contains at strings; slices.Equal at strings, pairs and Givens. -/
import Derived.Test.YtgnaknanpgfpnaaData
import Derived.Laws.StructEq
namespace Go.Proofs.Ytgnaknanpgfpnaa
open Go.RowKit

theorem Strs.at_ {w : World} {B : Nat} {A : Option Addr} {n c i : Nat} {xs : List ByteArray} {x : ByteArray} (h : Strs w B xs (.slice A n c)) (hx : xs[i]? = some x) :
    ∃ b off, A = some ⟨b, off, none⟩ ∧ b < B ∧ w.cell? ⟨b, off + i, none⟩ = some (.string x) := by
  obtain ⟨A', c', e, h1, h2, h3⟩ := h
  obtain ⟨b, off, cs, hA, hlt, hr, hc⟩ := h3 i x hx
  injection e with e1 e2 e3
  subst e1 hr
  have := hc 0 _ rfl
  simp only [Nat.mul_one, Nat.add_zero] at this
  exact ⟨b, off, hA, hlt, this⟩
theorem Pairs.at_ {w : World} {B : Nat} {A : Option Addr} {n c i : Nat} {xs : List (ByteArray × ByteArray)} {x : ByteArray × ByteArray} (h : Pairs w B xs (.slice A n c)) (hx : xs[i]? = some x) :
    ∃ b off, A = some ⟨b, off, none⟩ ∧ b < B ∧ w.cell? ⟨b, off + i * 2, none⟩ = some (.string x.1) ∧ w.cell? ⟨b, off + i * 2 + 1, none⟩ = some (.string x.2) := by
  obtain ⟨A', c', e, h1, h2, h3⟩ := h
  obtain ⟨b, off, cs, hA, hlt, hr, hc⟩ := h3 i x hx
  injection e with e1 e2 e3
  subst e1 hr
  exact ⟨b, off, hA, hlt, hc 0 _ rfl, hc 1 _ rfl⟩

def sidxG (m : ByteArray) : List ByteArray → Nat → Int
  | [], _ => -1
  | x :: r, i => if x = m then i else sidxG m r (i + 1)
def hasB (l : List ByteArray) (m : ByteArray) : Bool := l.any fun x => decide (x = m)
theorem sidx_iff (m : ByteArray) : ∀ (l : List ByteArray) (i : Nat), decide (0 ≤ sidxG m l i) = hasB l m
  | [], i => by simp [sidxG, hasB]
  | x :: r, i => by
    have ih := sidx_iff m r (i + 1)
    unfold hasB at ih ⊢
    rw [List.any_cons]
    by_cases h : x = m
    · subst h; simp [sidxG]
    · simp only [sidxG, if_neg h, ih]
      simp [h]
set_option maxHeartbeats 1000000 in
theorem sindex_c (m : ByteArray) (xs : List ByteArray) (v : Value) (w : World) (B : Nat) (hB : B ≤ w.heap.size) (h : Strs w B xs v) :
    Calls Try.prog 52 #[v, .string m] w fun e w' => e = .returned (.int .i64 (sidxG m xs 0)) ∧ w = w' := by
  obtain ⟨A, c, rfl, hc1, hc2, _⟩ := id h
  have HF := Lib.hid (show sidxG m xs 0 = sidxG m (xs.drop 0) 0 from rfl)
  go_enter Try.func52, Try.ntmps52
  go_wp2
  go_loop [8] (fun i => ∃ k : Nat, k ≤ xs.length ∧ i = .int .i64 k ∧ Hid (sidxG m xs 0 = sidxG m (xs.drop k) k)) (fun i => xs.length - (intOf i).toNat)
  case atStart => exact ⟨0, Nat.zero_le _, rfl, HF⟩
  case round =>
    obtain ⟨k, hk, rfl, HS⟩ := hrel
    clear HF
    by_cases hlt : k < xs.length
    · obtain ⟨x, hx⟩ := get_at xs hlt
      have HD := Lib.hid (drop_at hx)
      obtain ⟨b, off, rfl, hbB, g0⟩ := Strs.at_ h hx
      have hbw : b < w.heap.size := by omega
      clear hx
      by_cases hxm : x = m
      · have he : m.toList = x.toList := by rw [hxm]
        have he2 : (m.toList == x.toList) = true := by simp [he]
        have HX := Lib.hid hxm
        clear hxm
        go_wp2
        go_ret
        exact ⟨ret_int (by rw [HS.out, HD.out]; simp [sidxG, HX.out]), rfl⟩
      · have he : ¬ m.toList = x.toList := by rw [str_iff]; exact fun h => hxm h.symm
        have he2 : (m.toList == x.toList) = false := by simp [he]
        go_wp2
        go_round
        case rel => exact ⟨k + 1, by omega, by go_num, by show _ = _; rw [HS.out, HD.out]; simp [sidxG, hxm]⟩
        case measure => simp [intOf]; omega
    · go_wp2
      go_ret
      exact ⟨ret_int (by rw [HS.out, List.drop_of_length_le (by omega)]; rfl), rfl⟩
theorem scontains_c (m : ByteArray) (xs : List ByteArray) (v : Value) (w : World) (B : Nat) (hB : B ≤ w.heap.size) (h : Strs w B xs v) :
    Calls Try.prog 30 #[v, .string m] w fun e w' => e = .returned (.bool (hasB xs m)) ∧ w = w' := by
  obtain ⟨A, c, rfl, hc1, hc2, _⟩ := id h
  have HE := Lib.hid (sidx_iff m xs 0)
  go_enter Try.func30, Try.ntmps30
  go_wp2_with fail
  refine (sindex_c m xs _ _ B hB h).mono ?_
  rintro e w1 ⟨rfl, rfl⟩
  go_wp2
  go_ret
  exact ⟨ret_bool (by rw [← HE.out]), rfl⟩

def eqG (x y : Given) : Bool := decide (x.mark = y.mark) && decide (x.unit = y.unit) && decide (x.from_ = y.from_) && decide (x.until_ = y.until_)
theorem neqG (x y : Given) (w : World) : (binOp .neq 38 (.agg #[.string x.mark, .int .i64 x.unit, .int .i64 x.from_, .int .i64 x.until_]) (.agg #[.string y.mark, .int .i64 y.unit, .int .i64 y.from_, .int .i64 y.until_])).run Try.prog w = .ok (.bool (!eqG x y)) w := by
  have hs : ∀ (d : Nat) (xs ys : Array Value), (Op.equalIn (d + 1) 38 (.agg xs) (.agg ys)).run Try.prog w = (Op.eqFields d xs ys (Try.prog.fieldsOf 38).toList).run Try.prog w := fun d xs ys => run_equalIn_struct w d 38 xs ys (by kernel_rfl) (by kernel_rfl)
  simp only [binOp]
  simp [Op.equal, Op.maxDepth, hs 9999, Program.fieldsOf, Try.underlying38, go_sem, str_eq]
  unfold eqG
  by_cases h1 : x.mark = y.mark <;> by_cases h2 : x.unit = y.unit <;> by_cases h3 : x.from_ = y.from_ <;> by_cases h4 : x.until_ = y.until_ <;> simp [h1, h2, h3, h4]
theorem eqG_iff (x y : Given) : eqG x y = true ↔ x = y := by
  cases x; cases y
  simp [eqG, and_assoc]
def eqS (x y : Standing) : Bool := decide (x.unit = y.unit) && decide (x.parent = y.parent) && decide (x.level = y.level) && decide (x.mark = y.mark) && decide (x.title = y.title)
theorem eqlS (x y : Standing) (w : World) : (binOp .eql 46 (.agg #[.int .i64 x.unit, .int .i64 x.parent, .int .i64 x.level, .string x.mark, .string x.title]) (.agg #[.int .i64 y.unit, .int .i64 y.parent, .int .i64 y.level, .string y.mark, .string y.title])).run Try.prog w = .ok (.bool (eqS x y)) w := by
  have hs : ∀ (d : Nat) (xs ys : Array Value), (Op.equalIn (d + 1) 46 (.agg xs) (.agg ys)).run Try.prog w = (Op.eqFields d xs ys (Try.prog.fieldsOf 46).toList).run Try.prog w := fun d xs ys => run_equalIn_struct w d 46 xs ys (by kernel_rfl) (by kernel_rfl)
  simp only [binOp]
  simp [Op.equal, Op.maxDepth, hs 9999, Program.fieldsOf, Try.underlying46, go_sem, str_eq]
  unfold eqS
  by_cases h1 : x.unit = y.unit <;> by_cases h2 : x.parent = y.parent <;> by_cases h3 : x.level = y.level <;> by_cases h4 : x.mark = y.mark <;> by_cases h5 : x.title = y.title <;> simp [h1, h2, h3, h4, h5]
theorem eqS_iff (x y : Standing) : eqS x y = true ↔ x = y := by
  cases x; cases y
  simp [eqS, and_assoc]
def eqP (x y : ByteArray × ByteArray) : Bool := decide (x.1 = y.1) && decide (x.2 = y.2)
theorem neqP (x y : ByteArray × ByteArray) (w : World) : (binOp .neq 40 (.agg #[.string x.1, .string x.2]) (.agg #[.string y.1, .string y.2])).run Try.prog w = .ok (.bool (!eqP x y)) w := by
  have hs : ∀ (d : Nat), (Op.equalIn (d + 2) 40 (.agg #[.string x.1, .string x.2]) (.agg #[.string y.1, .string y.2])).run Try.prog w = .ok (eqP x y) w := by
    intro d
    have hz : (Go.sizeOf 9).run Try.prog w = .ok 1 w := by kernel_rfl
    rw [Op.equalIn]
    simp [run_underlying Try.underlying40, hz, Std.Legacy.Range.forIn_eq_forIn_range', Std.Legacy.Range.size, go_sem]
    have ha : (isAgg 9).run Try.prog w = .ok false w := by kernel_rfl
    have he : ∀ a b : ByteArray, (Op.equalIn (d + 1) 9 (.string a) (.string b)).run Try.prog w = .ok (a.toList == b.toList) w := fun a b => run_equalIn_string w d 9 a b Try.underlying9
    rw [show List.range' 0 2 = [0, 1] from rfl]
    unfold eqP
    by_cases h1 : x.1 = y.1 <;> by_cases h2 : x.2 = y.2 <;> simp [ha, he, str_eq, h1, h2]
  simp only [binOp]
  simp [Op.equal, Op.maxDepth, hs 9998]
theorem eqP_iff (x y : ByteArray × ByteArray) : eqP x y = true ↔ x = y := by
  cases x; cases y
  simp [eqP]

def eqGL : List Given → List Given → Bool
  | [], [] => true
  | x :: r, y :: s => eqG x y && eqGL r s
  | _, _ => false
theorem eqGL_iff : ∀ a b : List Given, eqGL a b = true ↔ a = b
  | [], [] => by simp [eqGL]
  | [], _ :: _ => by simp [eqGL]
  | _ :: _, [] => by simp [eqGL]
  | x :: r, y :: s => by simp [eqGL, eqG_iff, eqGL_iff r s]
set_option maxHeartbeats 1000000 in
theorem equalGi_c (xs ys : List Given) (v v' : Value) (w : World) (B : Nat) (hB : B ≤ w.heap.size) (h : Givens w B xs v) (h' : Givens w B ys v') :
    Calls Try.prog 21 #[v, v'] w fun e w' => e = .returned (.bool (eqGL xs ys)) ∧ Below w.heap.size w w' := by
  obtain ⟨A, c, rfl, hc1, hc2, _⟩ := id h
  obtain ⟨A', c', rfl, hd1, hd2, _⟩ := id h'
  by_cases hl : xs.length = ys.length
  · have HL := Lib.hid hl
    have hl1 : ((xs.length : Int) != (ys.length : Int)) = false := by simp [hl]
    have hl2 : ((xs.length : Int) == (ys.length : Int)) = true := by simp [hl]
    have hl3 : (xs.length : Int) ≤ ys.length := by omega
    clear hl
    have HF := Lib.hid (show eqGL xs ys = eqGL (xs.drop 0) (ys.drop 0) from rfl)
    go_enter Try.func21, Try.ntmps21
    go_wp2
    go_loopw [13] (fun i wr => ∃ k : Nat, k ≤ xs.length ∧ i = .int .i64 k ∧ Hid (eqGL xs ys = eqGL (xs.drop k) (ys.drop k)) ∧ Below w.heap.size w wr) (fun i _ => xs.length - (intOf i).toNat)
    case atStart => exact ⟨0, Nat.zero_le _, rfl, HF, Below.refl _ _⟩
    case round =>
      obtain ⟨k, hk, rfl, HS, hb⟩ := hrel
      clear HF
      have hs := hb.size
      by_cases hlt : k < xs.length
      · have hlt' : k < ys.length := by have := HL.out; omega
        obtain ⟨x, hx⟩ := get_at xs hlt
        obtain ⟨y, hy⟩ := get_at ys hlt'
        have HD := Lib.hid (drop_at hx)
        have HD' := Lib.hid (drop_at hy)
        obtain ⟨b, off, rfl, hbB, g0, g1, g2, g3⟩ := Givens.at_ (h.below giS (hb.mono hB)) hx
        obtain ⟨b', off', rfl, hbB', q0, q1, q2, q3⟩ := Givens.at_ (h'.below giS (hb.mono hB)) hy
        have hbw : b < wr.heap.size := by omega
        have hbw' : b' < wr.heap.size := by omega
        clear hx hy hl1 hl2
        have hne := fun W : World => neqG x y W
        cases he : eqG x y
        · have HE := Lib.hid (show eqGL xs ys = false by rw [HS.out, HD.out, HD'.out]; simp [eqGL, he])
          rw [he] at hne; simp only [Bool.not_false] at hne
          clear he
          go_wp2
          go_quiet (fail)
          go_wp2
          go_ret
          exact ⟨ret_bool HE.out.symm, below_drewN hb _⟩
        · have HE := Lib.hid (show eqGL xs ys = eqGL (xs.drop (k + 1)) (ys.drop (k + 1)) by rw [HS.out, HD.out, HD'.out]; simp [eqGL, he])
          rw [he] at hne; simp only [Bool.not_true] at hne
          clear he
          go_wp2
          go_quiet (fail)
          go_wp2
          go_roundw
          case rel => exact ⟨k + 1, by omega, by go_num, HE, below_drewN hb _⟩
          case measure => simp [intOf]; omega
      · go_wp2
        go_ret
        exact ⟨ret_bool (by rw [HS.out, List.drop_of_length_le (by omega), List.drop_of_length_le (by have := HL.out; omega)]; rfl), hb⟩
  · have HE := Lib.hid (show eqGL xs ys = false by
      cases he : eqGL xs ys
      · rfl
      · exact absurd (congrArg List.length ((eqGL_iff xs ys).1 he)) hl)
    have hl1 : ((xs.length : Int) != (ys.length : Int)) = true := by simpa using fun h => hl (by omega)
    have hl2 : ((xs.length : Int) == (ys.length : Int)) = false := by simpa using fun h => hl (by omega)
    go_enter Try.func21, Try.ntmps21
    go_wp2
    go_ret
    exact ⟨ret_bool HE.out.symm, Below.refl _ _⟩

def eqPL : List (ByteArray × ByteArray) → List (ByteArray × ByteArray) → Bool
  | [], [] => true
  | x :: r, y :: s => eqP x y && eqPL r s
  | _, _ => false
theorem eqPL_iff : ∀ a b : List (ByteArray × ByteArray), eqPL a b = true ↔ a = b
  | [], [] => by simp [eqPL]
  | [], _ :: _ => by simp [eqPL]
  | _ :: _, [] => by simp [eqPL]
  | x :: r, y :: s => by simp [eqPL, eqP_iff, eqPL_iff r s]
set_option maxHeartbeats 1000000 in
theorem equalPa_c (xs ys : List (ByteArray × ByteArray)) (v v' : Value) (w : World) (B : Nat) (hB : B ≤ w.heap.size) (h : Pairs w B xs v) (h' : Pairs w B ys v') :
    Calls Try.prog 22 #[v, v'] w fun e w' => e = .returned (.bool (eqPL xs ys)) ∧ Below w.heap.size w w' := by
  obtain ⟨A, c, rfl, hc1, hc2, _⟩ := id h
  obtain ⟨A', c', rfl, hd1, hd2, _⟩ := id h'
  by_cases hl : xs.length = ys.length
  · have HL := Lib.hid hl
    have hl1 : ((xs.length : Int) != (ys.length : Int)) = false := by simp [hl]
    have hl2 : ((xs.length : Int) == (ys.length : Int)) = true := by simp [hl]
    have hl3 : (xs.length : Int) ≤ ys.length := by omega
    clear hl
    have HF := Lib.hid (show eqPL xs ys = eqPL (xs.drop 0) (ys.drop 0) from rfl)
    go_enter Try.func22, Try.ntmps22
    go_wp2
    go_loopw [13] (fun i wr => ∃ k : Nat, k ≤ xs.length ∧ i = .int .i64 k ∧ Hid (eqPL xs ys = eqPL (xs.drop k) (ys.drop k)) ∧ Below w.heap.size w wr) (fun i _ => xs.length - (intOf i).toNat)
    case atStart => exact ⟨0, Nat.zero_le _, rfl, HF, Below.refl _ _⟩
    case round =>
      obtain ⟨k, hk, rfl, HS, hb⟩ := hrel
      clear HF
      have hs := hb.size
      by_cases hlt : k < xs.length
      · have hlt' : k < ys.length := by have := HL.out; omega
        obtain ⟨x, hx⟩ := get_at xs hlt
        obtain ⟨y, hy⟩ := get_at ys hlt'
        have HD := Lib.hid (drop_at hx)
        have HD' := Lib.hid (drop_at hy)
        obtain ⟨b, off, rfl, hbB, g0, g1⟩ := Pairs.at_ (h.below paS (hb.mono hB)) hx
        obtain ⟨b', off', rfl, hbB', q0, q1⟩ := Pairs.at_ (h'.below paS (hb.mono hB)) hy
        have hbw : b < wr.heap.size := by omega
        have hbw' : b' < wr.heap.size := by omega
        clear hx hy hl1 hl2
        have hne := fun W : World => neqP x y W
        cases he : eqP x y
        · have HE := Lib.hid (show eqPL xs ys = false by rw [HS.out, HD.out, HD'.out]; simp [eqPL, he])
          rw [he] at hne; simp only [Bool.not_false] at hne
          clear he
          go_wp2
          go_quiet (fail)
          go_wp2
          go_ret
          exact ⟨ret_bool HE.out.symm, below_drewN hb _⟩
        · have HE := Lib.hid (show eqPL xs ys = eqPL (xs.drop (k + 1)) (ys.drop (k + 1)) by rw [HS.out, HD.out, HD'.out]; simp [eqPL, he])
          rw [he] at hne; simp only [Bool.not_true] at hne
          clear he
          go_wp2
          go_quiet (fail)
          go_wp2
          go_roundw
          case rel => exact ⟨k + 1, by omega, by go_num, HE, below_drewN hb _⟩
          case measure => simp [intOf]; omega
      · go_wp2
        go_ret
        exact ⟨ret_bool (by rw [HS.out, List.drop_of_length_le (by omega), List.drop_of_length_le (by have := HL.out; omega)]; rfl), hb⟩
  · have HE := Lib.hid (show eqPL xs ys = false by
      cases he : eqPL xs ys
      · rfl
      · exact absurd (congrArg List.length ((eqPL_iff xs ys).1 he)) hl)
    have hl1 : ((xs.length : Int) != (ys.length : Int)) = true := by simpa using fun h => hl (by omega)
    have hl2 : ((xs.length : Int) == (ys.length : Int)) = false := by simpa using fun h => hl (by omega)
    go_enter Try.func22, Try.ntmps22
    go_wp2
    go_ret
    exact ⟨ret_bool HE.out.symm, Below.refl _ _⟩

def eqB (x y : ByteArray) : Bool := decide (x = y)
theorem eqB_iff (x y : ByteArray) : eqB x y = true ↔ x = y := by simp [eqB]
theorem neqB (x y : ByteArray) (w : World) : (binOp .neq 9 (.string x) (.string y)).run Try.prog w = .ok (.bool (!eqB x y)) w := by
  simp [go_sem, eqB, str_eq]

def eqBL : List ByteArray → List ByteArray → Bool
  | [], [] => true
  | x :: r, y :: s => eqB x y && eqBL r s
  | _, _ => false
theorem eqBL_iff : ∀ a b : List ByteArray, eqBL a b = true ↔ a = b
  | [], [] => by simp [eqBL]
  | [], _ :: _ => by simp [eqBL]
  | _ :: _, [] => by simp [eqBL]
  | x :: r, y :: s => by simp [eqBL, eqB_iff, eqBL_iff r s]
set_option maxHeartbeats 1000000 in
theorem equalSt_c (xs ys : List ByteArray) (v v' : Value) (w : World) (B : Nat) (hB : B ≤ w.heap.size) (h : Strs w B xs v) (h' : Strs w B ys v') :
    Calls Try.prog 27 #[v, v'] w fun e w' => e = .returned (.bool (eqBL xs ys)) ∧ Below w.heap.size w w' := by
  obtain ⟨A, c, rfl, hc1, hc2, _⟩ := id h
  obtain ⟨A', c', rfl, hd1, hd2, _⟩ := id h'
  by_cases hl : xs.length = ys.length
  · have HL := Lib.hid hl
    have hl1 : ((xs.length : Int) != (ys.length : Int)) = false := by simp [hl]
    have hl2 : ((xs.length : Int) == (ys.length : Int)) = true := by simp [hl]
    have hl3 : (xs.length : Int) ≤ ys.length := by omega
    clear hl
    have HF := Lib.hid (show eqBL xs ys = eqBL (xs.drop 0) (ys.drop 0) from rfl)
    go_enter Try.func27, Try.ntmps27
    go_wp2
    go_loopw [13] (fun i wr => ∃ k : Nat, k ≤ xs.length ∧ i = .int .i64 k ∧ Hid (eqBL xs ys = eqBL (xs.drop k) (ys.drop k)) ∧ Below w.heap.size w wr) (fun i _ => xs.length - (intOf i).toNat)
    case atStart => exact ⟨0, Nat.zero_le _, rfl, HF, Below.refl _ _⟩
    case round =>
      obtain ⟨k, hk, rfl, HS, hb⟩ := hrel
      clear HF
      have hs := hb.size
      by_cases hlt : k < xs.length
      · have hlt' : k < ys.length := by have := HL.out; omega
        obtain ⟨x, hx⟩ := get_at xs hlt
        obtain ⟨y, hy⟩ := get_at ys hlt'
        have HD := Lib.hid (drop_at hx)
        have HD' := Lib.hid (drop_at hy)
        obtain ⟨b, off, rfl, hbB, g0⟩ := Strs.at_ (h.below srS (hb.mono hB)) hx
        obtain ⟨b', off', rfl, hbB', q0⟩ := Strs.at_ (h'.below srS (hb.mono hB)) hy
        have hbw : b < wr.heap.size := by omega
        have hbw' : b' < wr.heap.size := by omega
        clear hx hy hl1 hl2
        have hne := fun W : World => neqB x y W
        cases he : eqB x y
        · have HE := Lib.hid (show eqBL xs ys = false by rw [HS.out, HD.out, HD'.out]; simp [eqBL, he])
          have hz1 : (x.toList == y.toList) = false := by rw [str_eq]; exact he
          have hz2 : ¬ x.toList = y.toList := by simpa using hz1
          clear he hne
          go_wp2
          go_quiet (fail)
          go_wp2
          go_ret
          exact ⟨ret_bool HE.out.symm, below_drewN hb _⟩
        · have HE := Lib.hid (show eqBL xs ys = eqBL (xs.drop (k + 1)) (ys.drop (k + 1)) by rw [HS.out, HD.out, HD'.out]; simp [eqBL, he])
          have hz1 : (x.toList == y.toList) = true := by rw [str_eq]; exact he
          have hz2 : x.toList = y.toList := by simpa using hz1
          clear he hne
          go_wp2
          go_quiet (fail)
          go_wp2
          go_roundw
          case rel => exact ⟨k + 1, by omega, by go_num, HE, below_drewN hb _⟩
          case measure => simp [intOf]; omega
      · go_wp2
        go_ret
        exact ⟨ret_bool (by rw [HS.out, List.drop_of_length_le (by omega), List.drop_of_length_le (by have := HL.out; omega)]; rfl), hb⟩
  · have HE := Lib.hid (show eqBL xs ys = false by
      cases he : eqBL xs ys
      · rfl
      · exact absurd (congrArg List.length ((eqBL_iff xs ys).1 he)) hl)
    have hl1 : ((xs.length : Int) != (ys.length : Int)) = true := by simpa using fun h => hl (by omega)
    have hl2 : ((xs.length : Int) == (ys.length : Int)) = false := by simpa using fun h => hl (by omega)
    go_enter Try.func27, Try.ntmps27
    go_wp2
    go_ret
    exact ⟨ret_bool HE.out.symm, Below.refl _ _⟩
end Go.Proofs.Ytgnaknanpgfpnaa
