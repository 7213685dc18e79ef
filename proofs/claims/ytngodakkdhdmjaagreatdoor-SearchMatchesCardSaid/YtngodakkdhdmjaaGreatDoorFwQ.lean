/- The reference: queries that are few; what the laws of chapter 56 begin with. -/
import Derived.Test.YtngodakkdhdmjaaGreatDoorAw6
import Derived.Test.YtngodakkdhdmjaaGreatDoorRfG
import Derived.Test.YtngodakkdhdmjaaGreatDoorFwI
namespace Go.Proofs.YtngodakkdhdmjaaGreatDoor
open Go.RowKit

def fewQ (l : List Ask) : Bool := decide (l.length ≤ 33) && l.all fun p => decide (p.text.size ≤ 70)
theorem fewQ_iff {l : List Ask} : fewQ l = true ↔ l.length ≤ 33 ∧ ∀ p ∈ l, p.text.size ≤ 70 := by
  unfold fewQ
  simp
set_option maxHeartbeats 2000000 in
theorem rfewQ_c (l : List Ask) (v : Value) (w : World) (B : Nat) (h : Asks w B l v) :
    Calls Tryz.prog 19 #[v] w fun e w' => e = .returned (.bool (fewQ l)) ∧ w = w' := by
  obtain ⟨A, c, rfl, hc1, hc2, _⟩ := id h
  have H0 := Lib.hid (show (l.all fun p => decide (p.text.size ≤ 70)) = ((l.drop 0).all fun p => decide (p.text.size ≤ 70)) from rfl)
  go_enter Tryz.func19, Tryz.ntmps19
  go_wp2
  go_loop [3] (fun i => ∃ k : Nat, k ≤ l.length ∧ i = .int .i64 k ∧ Hid ((l.all fun p => decide (p.text.size ≤ 70)) = ((l.drop k).all fun p => decide (p.text.size ≤ 70)))) (fun i => l.length - (intOf i).toNat)
  case atStart => exact ⟨0, Nat.zero_le _, rfl, H0⟩
  case round =>
    clear H0
    obtain ⟨k, hk, rfl, hh⟩ := hrel
    by_cases hlt : k < l.length
    · obtain ⟨x, hx⟩ := get_at l hlt
      have HD := Lib.hid (drop_at hx)
      obtain ⟨b, off, rfl, hbB, g0, g1, g2, g3⟩ := Asks.at_ h hx
      have hki : (k : Int) < (l.length : Int) := by omega
      by_cases hs : x.text.size ≤ 70
      · have HN := Lib.hid (show (l.all fun p => decide (p.text.size ≤ 70)) = ((l.drop (k + 1)).all fun p => decide (p.text.size ≤ 70)) by rw [hh.out, HD.out, List.all_cons, decide_eq_true hs, Bool.true_and])
        have hs2 : ¬ (70 : Int) < (x.text.size : Int) := by omega
        clear hh hx
        go_wp2
        go_round
        case rel => exact ⟨k + 1, by omega, by go_num, HN⟩
        case measure => simp [intOf]; omega
      · have HE := Lib.hid (show fewQ l = false by unfold fewQ; rw [hh.out, HD.out, List.all_cons, decide_eq_false hs, Bool.false_and, Bool.and_false])
        have hs2 : (70 : Int) < (x.text.size : Int) := by omega
        clear hh hx
        go_wp2
        go_ret
        exact ⟨ret_bool HE.out.symm, rfl⟩
    · have HE := Lib.hid (show fewQ l = decide ((l.length : Int) ≤ 33) by
        unfold fewQ
        rw [hh.out, List.drop_of_length_le (by omega), List.all_nil, Bool.and_true, Bool.eq_iff_iff]
        simp only [decide_eq_true_eq]
        omega)
      clear hh
      go_wp2
      go_ret
      exact ⟨ret_bool HE.out.symm, rfl⟩
theorem tree_any (q : List Ask) : ∃ Q : Qt, askE q = 0 → Q.Fit ∧ Q.ls = q := by
  by_cases h : askE q = 0
  · obtain ⟨-, -, Q, h1, h2⟩ := askE_zero h
    exact ⟨Q, fun _ => ⟨h1, h2⟩⟩
  · exact ⟨.leaf ⟨0, 0, 0, ⟨#[]⟩⟩, fun e => absurd e h⟩
theorem few14 {c : Cat} (hF : FewOk c) (h0 : catE c = 0) : c.sheets.length ≤ 14 := by
  have h1 := hF.small
  have h2 := (catE_zero h0).2.2.1
  omega
theorem chk_words {l : List Post} (h : chkL l = 0) : l.length ≤ 65536 ∧ ∀ p ∈ l, p.word.size ≤ 1000000 := by
  obtain ⟨h1, h2, -⟩ := chkL_zero h
  refine ⟨h1, fun p hp => ?_⟩
  have := h2 p hp
  unfold rightP at this
  simp only [Bool.and_eq_true, decide_eq_true_eq] at this
  omega
theorem cat_one {w : World} {B : Nat} {a : Cat} {a1 a2 a3 : Value} (hB : B ≤ w.heap.size) (ha : CatRep w B a a1 a2 a3) {W : World} {g : Nat} (hW : Below w.heap.size w W) (hg : W.heap[g]? = some (.cells #[a1, a2, a3] 41)) : SlRep 3 catR W (fun b => b < W.heap.size) [a] (.slice (some ⟨g, 0, none⟩) 1 1) := by
  have h1 := (ha.below (hW.mono hB)).mono (Nat.le_trans hB hW.size)
  refine sl_at (css := [[a1, a2, a3]]) (t := 41) catS rfl hg (fun i x cs hx hcs => ?_) (heap_ltQ hg) rfl (by simp)
  match i, hx, hcs with
  | 0, hx, hcs =>
    simp at hx hcs
    subst hx hcs
    exact ⟨a1, a2, a3, rfl, h1.langs, h1.labels, h1.sheets⟩
theorem cat_two {w : World} {B : Nat} {a b : Cat} {a1 a2 a3 b1 b2 b3 : Value} (hB : B ≤ w.heap.size) (ha : CatRep w B a a1 a2 a3) (hb : CatRep w B b b1 b2 b3) {W : World} {g : Nat} (hW : Below w.heap.size w W) (hg : W.heap[g]? = some (.cells #[a1, a2, a3, b1, b2, b3] 41)) : SlRep 3 catR W (fun b => b < W.heap.size) [a, b] (.slice (some ⟨g, 0, none⟩) 2 2) := by
  have h1 := (ha.below (hW.mono hB)).mono (Nat.le_trans hB hW.size)
  have h2 := (hb.below (hW.mono hB)).mono (Nat.le_trans hB hW.size)
  refine sl_at (css := [[a1, a2, a3], [b1, b2, b3]]) (t := 41) catS rfl hg (fun i x cs hx hcs => ?_) (heap_ltQ hg) rfl (by simp)
  match i, hx, hcs with
  | 0, hx, hcs =>
    simp at hx hcs
    subst hx hcs
    exact ⟨a1, a2, a3, rfl, h1.langs, h1.labels, h1.sheets⟩
  | 1, hx, hcs =>
    simp at hx hcs
    subst hx hcs
    exact ⟨b1, b2, b3, rfl, h2.langs, h2.labels, h2.sheets⟩
end Go.Proofs.YtngodakkdhdmjaaGreatDoor
