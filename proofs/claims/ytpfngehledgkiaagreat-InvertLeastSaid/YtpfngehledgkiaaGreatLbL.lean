/- The closure of InvertLeast; slices.Equal at facts; what a unit's postings hang on. -/
import Derived.Test.YtpfngehledgkiaaGreatLbT
import Derived.Test.YtpfngehledgkiaaGreatUpd
namespace Go.Proofs.YtpfngehledgkiaaGreat
open Go.RowKit

def eqFact (x y : Fact) : Bool := decide (x.el = y.el) && decide (x.lang = y.lang) && decide (x.text = y.text)
theorem eqFact_iff (x y : Fact) : eqFact x y = true ↔ x = y := by
  cases x; cases y
  simp [eqFact, and_assoc]
theorem Fact.neq (x y : Fact) (w : World) : (binOp .neq 55 (.agg #[.int .i64 x.el, .string x.lang, .string x.text]) (.agg #[.int .i64 y.el, .string y.lang, .string y.text])).run Tryz.prog w = .ok (.bool (!eqFact x y)) w := by
  have hs : ∀ (d : Nat) (xs ys : Array Value), (Op.equalIn (d + 1) 55 (.agg xs) (.agg ys)).run Tryz.prog w = (Op.eqFields d xs ys (Tryz.prog.fieldsOf 55).toList).run Tryz.prog w := fun d xs ys => run_equalIn_struct w d 55 xs ys (by kernel_rfl) (by kernel_rfl)
  simp only [binOp]
  simp [Op.equal, Op.maxDepth, hs 9999, Program.fieldsOf, Tryz.underlying55, go_sem, eqFact, str_eq]
  by_cases h0 : x.el = y.el <;> by_cases h1 : x.lang = y.lang <;> by_cases h2 : x.text = y.text <;> simp [h0, h1, h2]
set_option maxHeartbeats 2000000 in
theorem equalFacts_c (xs ys : List Fact) (v v' : Value) (w : World) (B : Nat) (hB : B ≤ w.heap.size) (h : SlRep 3 (flat Fact.enc) w (fun b => b < B) xs v) (h' : SlRep 3 (flat Fact.enc) w (fun b => b < B) ys v') :
    Calls Tryz.prog 25 #[v, v'] w fun e w' => e = .returned (.bool (eqL eqFact xs ys)) ∧ ∃ n, w' = w.drewN n := by
  obtain ⟨A, c, rfl, hc1, hc2, _⟩ := id h
  obtain ⟨A', c', rfl, hd1, hd2, _⟩ := id h'
  by_cases hl : xs.length = ys.length
  · have HL := Lib.hid hl
    have hl1 : ((xs.length : Int) != (ys.length : Int)) = false := by simp [hl]
    have hl2 : ((xs.length : Int) == (ys.length : Int)) = true := by simp [hl]
    have hl3 : (xs.length : Int) ≤ ys.length := by omega
    clear hl
    have HF := Lib.hid (show eqL eqFact xs ys = eqL eqFact (xs.drop 0) (ys.drop 0) from rfl)
    go_enter Tryz.func25, Tryz.ntmps25
    go_wp2
    go_loopw [13] (fun i wr => ∃ k : Nat, k ≤ xs.length ∧ i = .int .i64 k ∧ Hid (eqL eqFact xs ys = eqL eqFact (xs.drop k) (ys.drop k)) ∧ ∃ n, wr = w.drewN n) (fun i _ => xs.length - (intOf i).toNat)
    case atStart => exact ⟨0, Nat.zero_le _, rfl, HF, 0, rfl⟩
    case round =>
      obtain ⟨k, hk, rfl, HS, nd, rfl⟩ := hrel
      clear HF
      by_cases hlt : k < xs.length
      · have hlt' : k < ys.length := by have := HL.out; omega
        obtain ⟨x, hx⟩ := get_at xs hlt
        obtain ⟨y, hy⟩ := get_at ys hlt'
        have HD := Lib.hid (drop_at hx)
        have HD' := Lib.hid (drop_at hy)
        obtain ⟨b, off, rfl, hbB, g0, g1, g2⟩ := Facts.at_ h hx
        obtain ⟨b', off', rfl, hbB', q0, q1, q2⟩ := Facts.at_ h' hy
        have hbw : b < w.heap.size := by have : b < B := hbB; omega
        have hbw' : b' < w.heap.size := by have : b' < B := hbB'; omega
        clear hx hy hl1 hl2
        have hne := fun W : World => Fact.neq x y W
        cases he : eqFact x y
        · have HE := Lib.hid (show eqL eqFact xs ys = false by rw [HS.out, HD.out, HD'.out]; simp [eqL, he])
          rw [he] at hne; simp only [Bool.not_false] at hne
          clear he
          go_wp2
          go_quiet (fail)
          go_wp2
          go_ret
          exact ⟨ret_bool HE.out.symm, _, World.drewN_drewN _ _ _⟩
        · have HE := Lib.hid (show eqL eqFact xs ys = eqL eqFact (xs.drop (k + 1)) (ys.drop (k + 1)) by rw [HS.out, HD.out, HD'.out]; simp [eqL, he])
          rw [he] at hne; simp only [Bool.not_true] at hne
          clear he
          go_wp2
          go_quiet (fail)
          go_wp2
          go_roundw
          case rel => exact ⟨k + 1, by omega, by go_num, HE, _, rfl⟩
          case measure => simp [intOf]; omega
      · go_wp2
        go_ret
        exact ⟨ret_bool (by rw [HS.out, List.drop_of_length_le (by omega), List.drop_of_length_le (by have := HL.out; omega)]; rfl), _, rfl⟩
  · have HE := Lib.hid (eqL_len eqFact xs ys hl)
    have hl1 : ((xs.length : Int) != (ys.length : Int)) = true := by simpa using fun h => hl (by omega)
    have hl2 : ((xs.length : Int) == (ys.length : Int)) = false := by simpa using fun h => hl (by omega)
    go_enter Tryz.func25, Tryz.ntmps25
    go_wp2
    go_ret
    exact ⟨ret_bool HE.out.symm, 0, rfl⟩
def titF (c : Cat) (u : Int) : ByteArray := if shtIx c.sheets u < 0 then ⟨#[]⟩ else ((c.sheets[(shtIx c.sheets u).toNat]?.map Sheet.title).getD ⟨#[]⟩)
def titG : List Sheet → Int → ByteArray
  | [], _ => ⟨#[]⟩
  | x :: l, u => if x.unit = u then x.title else titG l u
theorem titG_is (u : Int) : ∀ (l : List Sheet), titG l u = ((l.find? fun x => decide (x.unit = u)).map Sheet.title).getD ⟨#[]⟩
  | [] => rfl
  | x :: l => by
    unfold titG
    rw [List.find?_cons]
    by_cases h : x.unit = u
    · rw [if_pos h, decide_eq_true h]
      rfl
    · rw [if_neg h, decide_eq_false h]
      exact titG_is u l
theorem titG_first {u : Int} : ∀ {l : List Sheet} {k : Nat} {x : Sheet}, l[k]? = some x → x.unit = u → (∀ (j : Nat) y, j < k → l[j]? = some y → y.unit ≠ u) → titG l u = x.title
  | [], k, x, h, _, _ => by simp at h
  | z :: l, 0, x, h, hu, _ => by
    simp at h
    subst h
    unfold titG
    rw [if_pos hu]
  | z :: l, k + 1, x, h, hu, hf => by
    unfold titG
    rw [if_neg (hf 0 z (by omega) rfl)]
    exact titG_first (by simpa using h) hu (fun j y hj hy => hf (j + 1) y (by omega) (by simpa using hy))
theorem titG_none {u : Int} : ∀ {l : List Sheet}, (∀ y ∈ l, y.unit ≠ u) → titG l u = ⟨#[]⟩
  | [], _ => rfl
  | z :: l, h => by
    unfold titG
    rw [if_neg (h z (by simp))]
    exact titG_none (fun y hy => h y (List.mem_cons_of_mem _ hy))
/-- the postings of a unit hang on its title and its chosen facts alone -/
theorem raw_tit (c : Cat) (s : ByteArray) (u : Int) : rawF c s u = putF u (-1) (titG c.sheets u) ++ (chooseR c u s).flatMap fun f => putF u f.el f.text := by
  rcases idxF_cases (fun x : Sheet => decide (x.unit = u)) c.sheets with ⟨h1, h2⟩ | ⟨k, x, h1, h2, h3, h4⟩
  · have hi : shtIx c.sheets u = -1 := h1
    rw [raw_none (by omega), titG_none (fun y hy => by simpa using h2 y hy)]
    have hc : chooseR c u s = [] := by unfold chooseR; rw [hi, if_pos (.inr (by decide))]
    rw [hc]
    rfl
  · have hi : shtIx c.sheets u = (k : Int) := h1
    rw [raw_at hi h2, titG_first h2 (by simpa using h3) (fun j y hj hy => by simpa using h4 j y hj hy)]
theorem of_same {a b : Cat} {s : ByteArray} {u : Int} (h1 : titG a.sheets u = titG b.sheets u) (h2 : chooseR a u s = chooseR b u s) : ofF a s u = ofF b s u := by
  unfold ofF
  rw [raw_tit a, raw_tit b, h1, h2]
set_option maxHeartbeats 1000000 in
theorem title_c (c : Cat) (u : Int) (v1 v2 v3 : Value) (w : World) (B : Nat) (hB : B ≤ w.heap.size) (h : CatRep w B c v1 v2 v3) :
    Calls Tryz.prog 23 #[.agg #[v1, v2, v3], .int .i64 u] w fun e w' => e = .returned (.string (titG c.sheets u)) ∧ Below w.heap.size w w' := by
  have b1 : Below w.heap.size w (w.alloc (catC v1 v2 v3)) := (Below.refl _ _).alloc (Nat.le_refl _) _
  have hb0 : Below (w.heap.size + 1) (w.alloc (catC v1 v2 v3)) (w.alloc (catC v1 v2 v3)) := Below.refl _ _
  have hsh := h.sheets.below shtS (b1.mono hB)
  have H0 := Lib.hid (show titG c.sheets u = titG (c.sheets.drop 0) u from rfl)
  obtain ⟨A1, c1, rfl, -⟩ := id h.langs
  obtain ⟨A2, c2, rfl, -⟩ := id h.labels
  obtain ⟨A3, c3, rfl, hc1, hc2, -⟩ := id h.sheets
  go_enter Tryz.func23, Tryz.ntmps23
  go_wp2
  go_loopw [10] (fun i wr => ∃ k : Nat, k ≤ c.sheets.length ∧ i = .int .i64 k ∧ Hid (titG c.sheets u = titG (c.sheets.drop k) u) ∧ Below w.heap.size w wr) (fun i _ => c.sheets.length - (intOf i).toNat)
  case atStart => exact ⟨0, Nat.zero_le _, rfl, H0, b1⟩
  case round =>
    clear H0
    obtain ⟨k, hk, rfl, HS, hb⟩ := hrel
    have hs := hb.size
    by_cases hlt : k < c.sheets.length
    · obtain ⟨x, hx⟩ := get_at c.sheets hlt
      have hd := drop_at hx
      obtain ⟨b, off, vf, e9, hbB, g0, g1, g2, g3, g4, g5, hvf⟩ := Sheets.at_ (h.sheets.below shtS (hb.mono hB)) hx
      subst e9
      have hbw : b < wr.heap.size := by have : b < B := hbB; omega
      obtain ⟨Af, cf, rfl, -⟩ := id hvf
      have hki : (k : Int) < (c.sheets.length : Int) := by omega
      have bx := hb.alloc hs (shtC x (.slice Af x.facts.length cf))
      by_cases hxu : x.unit = u
      · have HE := Lib.hid (show titG c.sheets u = x.title by rw [HS.out, hd, titG, if_pos hxu])
        have he : (x.unit == u) = true := by simpa using hxu
        clear hd HS hx hxu
        go_wp2
        go_ret
        exact ⟨by rw [HE.out]; rfl, bx⟩
      · have HN := Lib.hid (show titG c.sheets u = titG (c.sheets.drop (k + 1)) u by rw [HS.out, hd, titG, if_neg hxu])
        have he : (x.unit == u) = false := by simpa using hxu
        clear hd HS hx hxu
        go_wp2
        go_roundw
        case rel => exact ⟨k + 1, by omega, by go_num, HN, bx⟩
        case measure => simp [intOf]; omega
    · have HE := Lib.hid (show titG c.sheets u = ⟨#[]⟩ by rw [HS.out, List.drop_of_length_le (by omega)]; rfl)
      have hki : ¬ (k : Int) < (c.sheets.length : Int) := by omega
      clear HS
      go_wp2
      go_ret
      exact ⟨by rw [HE.out]; rfl, hb⟩
end Go.Proofs.YtpfngehledgkiaaGreat
