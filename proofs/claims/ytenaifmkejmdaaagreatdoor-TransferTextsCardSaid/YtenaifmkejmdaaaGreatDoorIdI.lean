/- slices.IndexFunc and ContainsFunc at items; the program's Divide asks for an item with too many pages. -/
import Derived.Test.YtenaifmkejmdaaaGreatDoorRtC
namespace Go.Proofs.YtenaifmkejmdaaaGreatDoor
open Go.RowKit

def idxG {α : Type} (p : α → Bool) : List α → Nat → Int
  | [], _ => -1
  | x :: l, i => if p x then (i : Int) else idxG p l (i + 1)
def idxF {α : Type} (p : α → Bool) (l : List α) : Int := idxG p l 0
theorem idxG_ge {α : Type} (p : α → Bool) : ∀ (l : List α) (i : Nat), decide (0 ≤ idxG p l i) = l.any p
  | [], i => by simp [idxG]
  | x :: l, i => by
    unfold idxG
    rw [List.any_cons]
    cases hp : p x
    · simpa using idxG_ge p l (i + 1)
    · simp
theorem idx_any {α : Type} (p : α → Bool) (l : List α) : decide (0 ≤ idxF p l) = l.any p := idxG_ge p l 0
set_option maxHeartbeats 2000000 in
theorem itmIdx1_c (F : FuncId) (c0 : Value) (p : Item → Bool) (xs : List Item) (v : Value) (w : World) (B : Nat) (hB : B ≤ w.heap.size) (h : SlRep 7 (flat Item.enc) w (fun b => b < B) xs v)
    (hF : ∀ (args : Array Value) (W : World), (callFunc F args).run Tryz.prog W = .ok (.enter F args) W)
    (hp : ∀ (x : Item) (W : World), x ∈ xs → Below w.heap.size w W → Calls Tryz.prog F #[itmV x, c0] W fun e w' => e = .returned (.bool (p x)) ∧ Below W.heap.size W w') :
    Calls Tryz.prog 53 #[v, .func (.func F) #[] #[c0]] w fun e w' => e = .returned (.int .i64 (idxF p xs)) ∧ Below w.heap.size w w' := by
  obtain ⟨A, c, rfl, hc1, hc2, _⟩ := id h
  have HP := Lib.hid hp
  clear hp
  have HF := Lib.hid (show idxF p xs = idxG p (xs.drop 0) 0 from rfl)
  go_enter Tryz.func53, Tryz.ntmps53
  go_wp2
  go_loopw [8] (fun i wr => ∃ k : Nat, k ≤ xs.length ∧ i = .int .i64 k ∧ Hid (idxF p xs = idxG p (xs.drop k) k) ∧ Below w.heap.size w wr) (fun i _ => xs.length - (intOf i).toNat)
  case atStart => exact ⟨0, Nat.zero_le _, rfl, HF, Below.refl _ _⟩
  case round =>
    obtain ⟨k, hk, rfl, HS, hb⟩ := hrel
    clear HF
    have hs := hb.size
    by_cases hlt : k < xs.length
    · obtain ⟨x, hx⟩ := get_at xs hlt
      have HD := Lib.hid (drop_at hx)
      obtain ⟨b, off, rfl, hbB, g0, g1, g2, g3, g4, g5, g6⟩ := Items.at_ (h.below itmS (hb.mono hB)) hx
      have hbw : b < wr.heap.size := by have : b < B := hbB; omega
      have HPX := Lib.hid (HP.out x wr (List.mem_of_getElem? hx) hb)
      clear hx
      go_wp2_with fail
      refine HPX.out.mono ?_
      rintro e w1 ⟨rfl, hb1⟩
      cases hpx : p x
      · go_wp2
        go_roundw
        case rel => exact ⟨k + 1, by omega, by go_num, by show _ = _; rw [HS.out, HD.out]; simp [idxG, hpx], hb.trans (hb1.mono hs)⟩
        case measure => simp [intOf]; omega
      · go_wp2
        go_ret
        exact ⟨ret_int (by rw [HS.out, HD.out]; simp [idxG, hpx]), hb.trans (hb1.mono hs)⟩
    · go_wp2
      go_ret
      exact ⟨ret_int (by rw [HS.out, List.drop_of_length_le (by omega)]; rfl), hb⟩
theorem itmAny1_c (F : FuncId) (c0 : Value) (p : Item → Bool) (xs : List Item) (v : Value) (w : World) (B : Nat) (hB : B ≤ w.heap.size) (h : SlRep 7 (flat Item.enc) w (fun b => b < B) xs v)
    (hF : ∀ (args : Array Value) (W : World), (callFunc F args).run Tryz.prog W = .ok (.enter F args) W)
    (hp : ∀ (x : Item) (W : World), x ∈ xs → Below w.heap.size w W → Calls Tryz.prog F #[itmV x, c0] W fun e w' => e = .returned (.bool (p x)) ∧ Below W.heap.size W w') :
    Calls Tryz.prog 34 #[v, .func (.func F) #[] #[c0]] w fun e w' => e = .returned (.bool (xs.any p)) ∧ Below w.heap.size w w' := by
  have HI := Lib.hid (itmIdx1_c F c0 p xs v w B hB h hF hp)
  have HE := Lib.hid (idx_any p xs)
  obtain ⟨A, c, rfl, hc1, hc2, _⟩ := id h
  clear hp hF
  go_enter Tryz.func34, Tryz.ntmps34
  go_wp2_with fail
  refine HI.out.mono ?_
  rintro e w1 ⟨rfl, hb1⟩
  go_wp2
  go_ret
  exact ⟨ret_bool (by rw [← HE.out]), hb1⟩
theorem divide1_c (x : Item) (m : Int) (g : Nat) (w : World) (h0 : w.cell? ⟨g, 0, none⟩ = some (.int .i64 m)) (hg : g < w.heap.size) :
    Calls Tryz.prog 35 #[itmV x, .pointer (some ⟨g, 0, none⟩)] w fun e w' => e = .returned (.bool (decide (m < x.pages))) ∧ Below w.heap.size w w' := by
  have b1 : Below w.heap.size w (w.alloc (itmC x)) := (Below.refl _ _).alloc (Nat.le_refl _) _
  go_enter Tryz.func35, Tryz.ntmps35
  go_wp2
  go_ret
  exact ⟨rfl, b1⟩
end Go.Proofs.YtenaifmkejmdaaaGreatDoor
