/- The program: fault and Check (package markup). -/
import Derived.Test.YtbmlnflacdockaaGreatDoorPrT
namespace Go.Proofs.YtbmlnflacdockaaGreatDoor
open Go.RowKit

/-- how deep a node may stand -/
def mostF (p : Option Node) : Int := match p with
  | none => 0
  | some q => min (q.depth + 1) 12
def fltF (p : Option Node) (x : Node) : Int :=
  if x.depth < 0 ∨ mostF p < x.depth then 5 else if tagB x.tag = false then 4 else if 4096 < x.text.size then 8 else 0
/-- the first error of a document -/
def fltG : Option Node → List Node → Int
  | _, [] => 0
  | p, x :: r => if fltF p x = 0 then fltG (some x) r else fltF p x
def fltE (l : List Node) : Int := if 512 < l.length then 8 else fltG none l
theorem fltG_cons (p : Option Node) (x : Node) (r : List Node) : fltG p (x :: r) = if fltF p x = 0 then fltG (some x) r else fltF p x := rfl
theorem fltF_deep {p : Option Node} {x : Node} (h : fltF p x = 0) : 0 ≤ x.depth ∧ x.depth ≤ 12 := by
  unfold fltF at h
  by_cases h1 : x.depth < 0 ∨ mostF p < x.depth
  · rw [if_pos h1] at h; cases h
  · have : mostF p ≤ 12 := by
      unfold mostF
      cases p with
      | none => simp
      | some q => simp only; omega
    omega
set_option maxRecDepth 100000 in
set_option maxHeartbeats 8000000 in
theorem fault_c (xs : List Node) (v : Value) (w : World) (B : Nat) (hB : B ≤ w.heap.size) (h : Nodes w B xs v) :
    Calls Tryz.prog 88 #[v] w fun e w' => (∃ i : Int, e = .returned (.tuple #[.int .i64 i, .int .i64 (fltE xs)])) ∧ Below w.heap.size w w' := by
  obtain ⟨A, ca, rfl, hc1, hc2, _⟩ := id h
  by_cases hs : 512 < xs.length
  · have HE := Lib.hid (show fltE xs = 8 by unfold fltE; rw [if_pos hs])
    have hd : decide ((512 : Int) < (xs.length : Int)) = true := decide_eq_true (by omega)
    clear hs
    go_enter Tryz.func88, Tryz.ntmps88
    go_wp2
    go_ret2
    exact ⟨⟨-1, by rw [HE.out]; rfl⟩, Below.refl _ _⟩
  · have hd : decide ((512 : Int) < (xs.length : Int)) = false := decide_eq_false (by omega)
    clear hs
    go_enter Tryz.func88, Tryz.ntmps88
    go_wp2
    have HE := Lib.hid (show fltE xs = fltG none (xs.drop 0) by unfold fltE; rw [if_neg (by have := of_decide_eq_false hd; omega)]; rfl)
    go_loopw [12] (fun v12 wr => ∃ (k : Nat) (p : Option Node), k ≤ xs.length ∧ v12 = .int .i64 k ∧ (p = if k = 0 then none else xs[k - 1]?) ∧ (∀ q, p = some q → 0 ≤ q.depth ∧ q.depth ≤ 12) ∧ Hid (fltE xs = fltG p (xs.drop k)) ∧ Below w.heap.size w wr) (fun v12 _ => xs.length - (intOf v12).toNat)
    case atStart => exact ⟨0, none, Nat.zero_le _, rfl, rfl, (fun q hq => (by cases hq)), HE, Below.refl _ _⟩
    case round =>
      clear HE
      obtain ⟨k, p, hk, rfl, hp, hpq, HS, Br⟩ := hrel
      have hsr := Br.size
      by_cases hlt : k < xs.length
      · obtain ⟨x, hx⟩ := get_at xs hlt
        have HP := Lib.hid (show some x = if k + 1 = 0 then none else xs[k + 1 - 1]? by rw [if_neg (by omega), Nat.add_sub_cancel, hx])
        obtain ⟨b, off, rfl, hbB, g0, g1, g2⟩ := Nodes.at_ (h.below nodS (Br.mono hB)) hx
        have hbw : b < wr.heap.size := by omega
        have bx := (Below.refl wr.heap.size wr).alloc (Nat.le_refl _) (.cells #[.int .i64 x.depth, .string x.tag, .string x.text] 61)
        have B2 := Br.trans (bx.mono hsr)
        have HT := Lib.hid (fun (W : World) => tag_c x.tag W)
        have HN := Lib.hid (show fltE xs = if fltF p x = 0 then fltG (some x) (xs.drop (k + 1)) else fltF p x by rw [HS.out, drop_at hx, fltG_cons])
        have HDP := Lib.hid (fun h0 : fltF p x = 0 => fltF_deep h0)
        clear HS
        rcases Nat.eq_zero_or_pos k with hk0 | hk0
        · subst hk0
          have HMO := Lib.hid (show mostF p = 0 by rw [hp]; rfl)
          simp only [Nat.zero_mul, Nat.add_zero] at g0 g1 g2
          clear hp hpq
          by_cases e1 : x.depth < 0
          · have d1 : decide (x.depth < 0) = true := decide_eq_true e1
            have HM := Lib.hid (show fltE xs = 5 by
              have hf : fltF p x = 5 := by unfold fltF; rw [if_pos (.inl e1)]
              rw [HN.out, hf]; rfl)
            clear HN HDP hx e1
            go_wp2
            go_ret2
            exact ⟨⟨_, by rw [HM.out]; rfl⟩, B2⟩
          · have d1 : decide (x.depth < 0) = false := decide_eq_false e1
            by_cases e2 : 0 < x.depth
            · have d2 : decide (0 < x.depth) = true := decide_eq_true e2
              have HM := Lib.hid (show fltE xs = 5 by
                have hf : fltF p x = 5 := by unfold fltF; rw [if_pos (.inr (by rw [HMO.out]; exact e2))]
                rw [HN.out, hf]; rfl)
              clear HN HDP hx e1 e2
              go_wp2
              go_ret2
              exact ⟨⟨_, by rw [HM.out]; rfl⟩, B2⟩
            · have d2 : decide (0 < x.depth) = false := decide_eq_false e2
              have HF1 := Lib.hid (show fltF p x = if tagB x.tag = false then 4 else if 4096 < x.text.size then 8 else 0 by unfold fltF; rw [if_neg (by rw [HMO.out]; omega)])
              cases ht : tagB x.tag
              · have HM := Lib.hid (show fltE xs = 4 by
                  have hf : fltF p x = 4 := by rw [HF1.out, if_pos ht]
                  rw [HN.out, hf]; rfl)
                rw [ht] at HT
                clear HN HDP hx e1 e2 ht HF1
                go_wp2_with fail
                refine (HT.out _).mono ?_
                rintro e w1 ⟨rfl, rfl⟩
                go_wp2
                go_ret2
                exact ⟨⟨_, by rw [HM.out]; rfl⟩, B2⟩
              · rw [ht] at HT
                by_cases e3 : 4096 < x.text.size
                · have d3 : decide ((4096 : Int) < (x.text.size : Int)) = true := decide_eq_true (by omega)
                  have HM := Lib.hid (show fltE xs = 8 by
                    have hf : fltF p x = 8 := by rw [HF1.out, if_neg (by simp [ht]), if_pos e3]
                    rw [HN.out, hf]; rfl)
                  clear HN HDP hx e1 e2 ht HF1 e3
                  go_wp2_with fail
                  refine (HT.out _).mono ?_
                  rintro e w1 ⟨rfl, rfl⟩
                  go_wp2
                  go_ret2
                  exact ⟨⟨_, by rw [HM.out]; rfl⟩, B2⟩
                · have d3 : decide ((4096 : Int) < (x.text.size : Int)) = false := decide_eq_false (by omega)
                  have hf : fltF p x = 0 := by rw [HF1.out, if_neg (by simp [ht]), if_neg e3]
                  have HM := Lib.hid (show fltE xs = fltG (some x) (xs.drop (0 + 1)) by rw [HN.out, if_pos hf])
                  have HD := Lib.hid (HDP.out hf)
                  clear HN HDP hx e1 e2 ht HF1 e3 hf
                  go_wp2_with fail
                  refine (HT.out _).mono ?_
                  rintro e w1 ⟨rfl, rfl⟩
                  go_wp2
                  go_roundw
                  case rel => exact ⟨0 + 1, some x, by omega, rfl, HP.out, (fun q hq => (by injection hq with hq; subst hq; exact HD.out)), HM, B2⟩
                  case measure => first | (simp [intOf]; done) | (simp [intOf]; omega)
        · obtain ⟨j, rfl⟩ : ∃ j, k = j + 1 := ⟨k - 1, by omega⟩
          obtain ⟨q, hq⟩ := get_at xs (show j < xs.length by omega)
          obtain rfl : p = some q := by rw [hp, if_neg (by omega), Nat.add_sub_cancel, hq]
          obtain ⟨hq0, hq1⟩ := hpq q rfl
          obtain ⟨b', off', hA', hbB', q0, q1, q2⟩ := Nodes.at_ (h.below nodS (Br.mono hB)) hq
          injection hA' with hA'
          injection hA' with ee1 ee2
          subst ee1 ee2
          have hki0 : (0 : Int) ≤ (j : Int) := by omega
          have hki1 : (j : Int) < (xs.length : Int) := by omega
          have hki2 : ((j : Int) + 1 == 0) = false := by simp; omega
          have hki3 : decide ((0 : Int) < (j : Int) + 1) = true := decide_eq_true (by omega)
          clear hp hpq hq hk0
          rcases Int.lt_or_le 11 q.depth with h12 | h12
          · have HMO := Lib.hid (show mostF (some q) = 12 by simp only [mostF]; omega)
            have hm : min (q.depth + 1) 12 = 12 := by omega
            by_cases e1 : x.depth < 0
            · have d1 : decide (x.depth < 0) = true := decide_eq_true e1
              have HM := Lib.hid (show fltE xs = 5 by
                have hf : fltF (some q) x = 5 := by unfold fltF; rw [if_pos (.inl e1)]
                rw [HN.out, hf]; rfl)
              clear HN HDP hx e1
              go_wp2
              go_ret2
              exact ⟨⟨_, by rw [HM.out]; rfl⟩, B2⟩
            · have d1 : decide (x.depth < 0) = false := decide_eq_false e1
              by_cases e2 : 12 < x.depth
              · have d2 : decide (12 < x.depth) = true := decide_eq_true e2
                have HM := Lib.hid (show fltE xs = 5 by
                  have hf : fltF (some q) x = 5 := by unfold fltF; rw [if_pos (.inr (by rw [HMO.out]; exact e2))]
                  rw [HN.out, hf]; rfl)
                clear HN HDP hx e1 e2
                go_wp2
                go_ret2
                exact ⟨⟨_, by rw [HM.out]; rfl⟩, B2⟩
              · have d2 : decide (12 < x.depth) = false := decide_eq_false e2
                have HF1 := Lib.hid (show fltF (some q) x = if tagB x.tag = false then 4 else if 4096 < x.text.size then 8 else 0 by unfold fltF; rw [if_neg (by rw [HMO.out]; omega)])
                cases ht : tagB x.tag
                · have HM := Lib.hid (show fltE xs = 4 by
                    have hf : fltF (some q) x = 4 := by rw [HF1.out, if_pos ht]
                    rw [HN.out, hf]; rfl)
                  rw [ht] at HT
                  clear HN HDP hx e1 e2 ht HF1
                  go_wp2_with fail
                  refine (HT.out _).mono ?_
                  rintro e w1 ⟨rfl, rfl⟩
                  go_wp2
                  go_ret2
                  exact ⟨⟨_, by rw [HM.out]; rfl⟩, B2⟩
                · rw [ht] at HT
                  by_cases e3 : 4096 < x.text.size
                  · have d3 : decide ((4096 : Int) < (x.text.size : Int)) = true := decide_eq_true (by omega)
                    have HM := Lib.hid (show fltE xs = 8 by
                      have hf : fltF (some q) x = 8 := by rw [HF1.out, if_neg (by simp [ht]), if_pos e3]
                      rw [HN.out, hf]; rfl)
                    clear HN HDP hx e1 e2 ht HF1 e3
                    go_wp2_with fail
                    refine (HT.out _).mono ?_
                    rintro e w1 ⟨rfl, rfl⟩
                    go_wp2
                    go_ret2
                    exact ⟨⟨_, by rw [HM.out]; rfl⟩, B2⟩
                  · have d3 : decide ((4096 : Int) < (x.text.size : Int)) = false := decide_eq_false (by omega)
                    have hf : fltF (some q) x = 0 := by rw [HF1.out, if_neg (by simp [ht]), if_neg e3]
                    have HM := Lib.hid (show fltE xs = fltG (some x) (xs.drop (j + 1 + 1)) by rw [HN.out, if_pos hf])
                    have HD := Lib.hid (HDP.out hf)
                    clear HN HDP hx e1 e2 ht HF1 e3 hf
                    go_wp2_with fail
                    refine (HT.out _).mono ?_
                    rintro e w1 ⟨rfl, rfl⟩
                    go_wp2
                    go_roundw
                    case rel => exact ⟨j + 1 + 1, some x, by omega, by go_num, HP.out, (fun q hq => (by injection hq with hq; subst hq; exact HD.out)), HM, B2⟩
                    case measure => simp [intOf]; omega
          · have HMO := Lib.hid (show mostF (some q) = q.depth + 1 by simp only [mostF]; omega)
            have hm : min (q.depth + 1) 12 = q.depth + 1 := by omega
            by_cases e1 : x.depth < 0
            · have d1 : decide (x.depth < 0) = true := decide_eq_true e1
              have HM := Lib.hid (show fltE xs = 5 by
                have hf : fltF (some q) x = 5 := by unfold fltF; rw [if_pos (.inl e1)]
                rw [HN.out, hf]; rfl)
              clear HN HDP hx e1
              go_wp2
              go_ret2
              exact ⟨⟨_, by rw [HM.out]; rfl⟩, B2⟩
            · have d1 : decide (x.depth < 0) = false := decide_eq_false e1
              by_cases e2 : (q.depth + 1) < x.depth
              · have d2 : decide ((q.depth + 1) < x.depth) = true := decide_eq_true e2
                have HM := Lib.hid (show fltE xs = 5 by
                  have hf : fltF (some q) x = 5 := by unfold fltF; rw [if_pos (.inr (by rw [HMO.out]; exact e2))]
                  rw [HN.out, hf]; rfl)
                clear HN HDP hx e1 e2
                go_wp2
                go_ret2
                exact ⟨⟨_, by rw [HM.out]; rfl⟩, B2⟩
              · have d2 : decide ((q.depth + 1) < x.depth) = false := decide_eq_false e2
                have HF1 := Lib.hid (show fltF (some q) x = if tagB x.tag = false then 4 else if 4096 < x.text.size then 8 else 0 by unfold fltF; rw [if_neg (by rw [HMO.out]; omega)])
                cases ht : tagB x.tag
                · have HM := Lib.hid (show fltE xs = 4 by
                    have hf : fltF (some q) x = 4 := by rw [HF1.out, if_pos ht]
                    rw [HN.out, hf]; rfl)
                  rw [ht] at HT
                  clear HN HDP hx e1 e2 ht HF1
                  go_wp2_with fail
                  refine (HT.out _).mono ?_
                  rintro e w1 ⟨rfl, rfl⟩
                  go_wp2
                  go_ret2
                  exact ⟨⟨_, by rw [HM.out]; rfl⟩, B2⟩
                · rw [ht] at HT
                  by_cases e3 : 4096 < x.text.size
                  · have d3 : decide ((4096 : Int) < (x.text.size : Int)) = true := decide_eq_true (by omega)
                    have HM := Lib.hid (show fltE xs = 8 by
                      have hf : fltF (some q) x = 8 := by rw [HF1.out, if_neg (by simp [ht]), if_pos e3]
                      rw [HN.out, hf]; rfl)
                    clear HN HDP hx e1 e2 ht HF1 e3
                    go_wp2_with fail
                    refine (HT.out _).mono ?_
                    rintro e w1 ⟨rfl, rfl⟩
                    go_wp2
                    go_ret2
                    exact ⟨⟨_, by rw [HM.out]; rfl⟩, B2⟩
                  · have d3 : decide ((4096 : Int) < (x.text.size : Int)) = false := decide_eq_false (by omega)
                    have hf : fltF (some q) x = 0 := by rw [HF1.out, if_neg (by simp [ht]), if_neg e3]
                    have HM := Lib.hid (show fltE xs = fltG (some x) (xs.drop (j + 1 + 1)) by rw [HN.out, if_pos hf])
                    have HD := Lib.hid (HDP.out hf)
                    clear HN HDP hx e1 e2 ht HF1 e3 hf
                    go_wp2_with fail
                    refine (HT.out _).mono ?_
                    rintro e w1 ⟨rfl, rfl⟩
                    go_wp2
                    go_roundw
                    case rel => exact ⟨j + 1 + 1, some x, by omega, by go_num, HP.out, (fun q hq => (by injection hq with hq; subst hq; exact HD.out)), HM, B2⟩
                    case measure => simp [intOf]; omega
      · have HM := Lib.hid (show fltE xs = 0 by rw [HS.out, List.drop_of_length_le (by omega)]; cases p <;> rfl)
        go_wp2
        go_ret2
        exact ⟨⟨_, by rw [HM.out]; rfl⟩, Br⟩
end Go.Proofs.YtbmlnflacdockaaGreatDoor
