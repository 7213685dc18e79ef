/- The example of the chapter: Town and awake. -/
import Derived.Test.YtgnaknanpgfpnaaCncH
namespace Go.Proofs.Ytgnaknanpgfpnaa
open Go.RowKit

def bA : ByteArray := ⟨#[65]⟩
def bB : ByteArray := ⟨#[66]⟩
def bC : ByteArray := ⟨#[67]⟩
def bx : ByteArray := ⟨#[120]⟩
def by_ : ByteArray := ⟨#[121]⟩
def b0 : ByteArray := ⟨#[]⟩
def townL (m : ByteArray) : List Shot := [⟨10, [⟨1, 0, 1, bA, bx⟩]⟩, ⟨20, [⟨1, 0, 1, bB, bx⟩, ⟨2, 1, 2, b0, by_⟩]⟩, ⟨30, [⟨1, 0, 1, bA, bx⟩, ⟨2, 1, 2, m, by_⟩]⟩]
theorem cell_at {W : World} {g : Nat} {cs : Array Value} {t : TypeId} (h : W.heap[g]? = some (.cells cs t (0, 0))) (i : Nat) : W.cell? ⟨g, i, none⟩ = cs[i]? := by simp [World.cell?, h]
theorem lt_heap {W : World} {g : Nat} {o : Obj} (h : W.heap[g]? = some o) : g < W.heap.size := by
  rcases Nat.lt_or_ge g W.heap.size with hlt | hge
  · exact hlt
  · rw [Array.getElem?_eq_none hge] at h; cases h
/-- units that lie in one block of their own -/
theorem units_at {W : World} {g : Nat} {us : List Standing} {t : TypeId} {n : Nat} (h : W.heap[g]? = some (.cells (us.map Standing.enc).flatten.toArray t (0, 0))) (hn : n = us.length) (hb : us.length ≤ 9223372036854775807) : Units W W.heap.size us (.slice (some ⟨g, 0, none⟩) n n) := by
  subst hn
  refine ⟨_, us.length, rfl, Nat.le_refl _, hb, fun i x hx => ⟨g, 0, x.enc, rfl, lt_heap h, rfl, fun j u hu => ?_⟩⟩
  · rw [cell_at h]
    have := flatten_at (w := W) (F := fun _ => True) stS (xs := us) (css := us.map Standing.enc) (by simp) (fun i x cs hx hcs => by rw [List.getElem?_map, hx] at hcs; injection hcs with hcs; exact hcs.symm) i x x.enc j u hx (by rw [List.getElem?_map, hx]; rfl) hu
    simpa using this

def stv (u p l : Int) (m t : ByteArray) : List Value := [.int .i64 u, .int .i64 p, .int .i64 l, .string m, .string t]
theorem town_rep {W : World} {g : Nat} {m : ByteArray} (h2 : W.heap[g + 2]? = some (.cells #[.int .i64 1, .int .i64 0, .int .i64 1, .string bA, .string bx] 46 (0, 0)))
    (h3 : W.heap[g + 3]? = some (.cells #[.int .i64 1, .int .i64 0, .int .i64 1, .string bB, .string bx, .int .i64 2, .int .i64 1, .int .i64 2, .string b0, .string by_] 46 (0, 0)))
    (h4 : W.heap[g + 4]? = some (.cells #[.int .i64 1, .int .i64 0, .int .i64 1, .string bA, .string bx, .int .i64 2, .int .i64 1, .int .i64 2, .string m, .string by_] 46 (0, 0)))
    (h5 : W.heap[g + 5]? = some (.cells #[.int .i64 10, .slice (some ⟨g + 2, 0, none⟩) 1 1, .int .i64 20, .slice (some ⟨g + 3, 0, none⟩) 2 2, .int .i64 30, .slice (some ⟨g + 4, 0, none⟩) 2 2] 61 (0, 0))) :
    Shots W W.heap.size (townL m) (.slice (some ⟨g + 5, 0, none⟩) 3 3) := by
  have u0 := units_at (us := [⟨1, 0, 1, bA, bx⟩]) (n := 1) h2 rfl (by simp)
  have u1 := units_at (us := [⟨1, 0, 1, bB, bx⟩, ⟨2, 1, 2, b0, by_⟩]) (n := 2) h3 rfl (by simp)
  have u2 := units_at (us := [⟨1, 0, 1, bA, bx⟩, ⟨2, 1, 2, m, by_⟩]) (n := 2) h4 rfl (by simp)
  have hc := cell_at h5
  refine ⟨_, 3, rfl, by simp [townL], by omega, fun i x hx => ⟨g + 5, 0, ?_⟩⟩
  match i, hx with
  | 0, hx =>
    simp [townL] at hx; subst hx
    exact ⟨_, rfl, lt_heap h5, ⟨_, rfl, u0⟩, fun j u hu => by
      rw [hc]
      match j, hu with
      | 0, hu => simpa using hu
      | 1, hu => simpa using hu
      | j + 2, hu => simp at hu⟩
  | 1, hx =>
    simp [townL] at hx; subst hx
    exact ⟨_, rfl, lt_heap h5, ⟨_, rfl, u1⟩, fun j u hu => by
      rw [hc]
      match j, hu with
      | 0, hu => simpa using hu
      | 1, hu => simpa using hu
      | j + 2, hu => simp at hu⟩
  | 2, hx =>
    simp [townL] at hx; subst hx
    exact ⟨_, rfl, lt_heap h5, ⟨_, rfl, u2⟩, fun j u hu => by
      rw [hc]
      match j, hu with
      | 0, hu => simpa using hu
      | 1, hu => simpa using hu
      | j + 2, hu => simp at hu⟩
  | i + 3, hx => simp [townL] at hx

theorem alloc6 (w : World) (a0 a1 a2 a3 a4 a5 : Obj) : ((((((w.alloc a0).alloc a1).alloc a2).alloc a3).alloc a4).alloc a5).heap[w.heap.size + 2]? = some a2 ∧ ((((((w.alloc a0).alloc a1).alloc a2).alloc a3).alloc a4).alloc a5).heap[w.heap.size + 3]? = some a3 ∧
    ((((((w.alloc a0).alloc a1).alloc a2).alloc a3).alloc a4).alloc a5).heap[w.heap.size + 4]? = some a4 ∧ ((((((w.alloc a0).alloc a1).alloc a2).alloc a3).alloc a4).alloc a5).heap[w.heap.size + 5]? = some a5 ∧ Below w.heap.size w ((((((w.alloc a0).alloc a1).alloc a2).alloc a3).alloc a4).alloc a5) := by
  have e : ((((((w.alloc a0).alloc a1).alloc a2).alloc a3).alloc a4).alloc a5).heap = (((((w.heap.push a0).push a1).push a2).push a3).push a4).push a5 := rfl
  refine ⟨?_, ?_, ?_, ?_, (((((Below.refl _ _).alloc (Nat.le_refl _) _).alloc (by simp) _).alloc (by simp; omega) _).alloc (by simp; omega) _).alloc (by simp; omega) _ |>.alloc (by simp; omega) _⟩
  · rw [e, Array.getElem?_push, if_neg (by simp), Array.getElem?_push, if_neg (by simp), Array.getElem?_push, if_neg (by simp), Array.getElem?_push, if_pos (by simp)]
  · rw [e, Array.getElem?_push, if_neg (by simp), Array.getElem?_push, if_neg (by simp), Array.getElem?_push, if_pos (by simp)]
  · rw [e, Array.getElem?_push, if_neg (by simp), Array.getElem?_push, if_pos (by simp)]
  · rw [e, Array.getElem?_push, if_pos (by simp)]
theorem town_c (w : World) : Calls Try.prog 34 #[] w fun e w' => e = .returned (.slice (some ⟨w.heap.size + 5, 0, none⟩) 3 3) ∧ Shots w' w'.heap.size (townL bC) (.slice (some ⟨w.heap.size + 5, 0, none⟩) 3 3) ∧ Below w.heap.size w w' ∧
    w'.heap[w.heap.size + 2]? = some (.cells #[.int .i64 1, .int .i64 0, .int .i64 1, .string bA, .string bx] 46 (0, 0)) ∧
    w'.heap[w.heap.size + 3]? = some (.cells #[.int .i64 1, .int .i64 0, .int .i64 1, .string bB, .string bx, .int .i64 2, .int .i64 1, .int .i64 2, .string b0, .string by_] 46 (0, 0)) ∧
    w'.heap[w.heap.size + 4]? = some (.cells #[.int .i64 1, .int .i64 0, .int .i64 1, .string bA, .string bx, .int .i64 2, .int .i64 1, .int .i64 2, .string bC, .string by_] 46 (0, 0)) ∧
    w'.heap[w.heap.size + 5]? = some (.cells #[.int .i64 10, .slice (some ⟨w.heap.size + 2, 0, none⟩) 1 1, .int .i64 20, .slice (some ⟨w.heap.size + 3, 0, none⟩) 2 2, .int .i64 30, .slice (some ⟨w.heap.size + 4, 0, none⟩) 2 2] 61 (0, 0)) := by
  go_enter Try.func34, Try.ntmps34
  go_wp2
  go_ret
  refine ⟨rfl, ?_⟩
  have key : ∀ W : World, (W.heap[w.heap.size + 2]? = some (.cells #[.int .i64 1, .int .i64 0, .int .i64 1, .string bA, .string bx] 46 (0, 0)) ∧
      W.heap[w.heap.size + 3]? = some (.cells #[.int .i64 1, .int .i64 0, .int .i64 1, .string bB, .string bx, .int .i64 2, .int .i64 1, .int .i64 2, .string b0, .string by_] 46 (0, 0)) ∧
      W.heap[w.heap.size + 4]? = some (.cells #[.int .i64 1, .int .i64 0, .int .i64 1, .string bA, .string bx, .int .i64 2, .int .i64 1, .int .i64 2, .string bC, .string by_] 46 (0, 0)) ∧
      W.heap[w.heap.size + 5]? = some (.cells #[.int .i64 10, .slice (some ⟨w.heap.size + 2, 0, none⟩) 1 1, .int .i64 20, .slice (some ⟨w.heap.size + 3, 0, none⟩) 2 2, .int .i64 30, .slice (some ⟨w.heap.size + 4, 0, none⟩) 2 2] 61 (0, 0)) ∧ Below w.heap.size w W) → _ := fun W h => (⟨town_rep h.1 h.2.1 h.2.2.1 h.2.2.2.1, h.2.2.2.2, h.1, h.2.1, h.2.2.1, h.2.2.2.1⟩ : Shots W W.heap.size (townL bC) (.slice (some ⟨w.heap.size + 5, 0, none⟩) 3 3) ∧ Below w.heap.size w W ∧ _ ∧ _ ∧ _ ∧ _)
  exact key _ (alloc6 w _ _ _ _ _ _)
theorem town_ok : progCheck (townL bC) = 0 := by decide +kernel
theorem town_collect : eqGL (collectL (townL bC)) [⟨bA, 1, 10, 20⟩, ⟨bA, 1, 30, 1048576⟩, ⟨bB, 1, 20, 30⟩, ⟨bC, 2, 30, 1048576⟩] = true := by decide +kernel
theorem town_table : eqPL (progTable (townL bC)) [(bB, bA)] = true := by decide +kernel
theorem town_bad : progCheck (townL bB) = 19 := by decide +kernel
theorem town_holder : progHolder (townL bC) bB = (1, true) := by decide +kernel
theorem town_stand : progStanding (townL bC) 1 25 = some ⟨1, 0, 1, bB, bx⟩ := by rfl
theorem town_marks : eqBL (progMarks (townL bC) 1) [bA, bB] = true := by decide +kernel
theorem town_at : progAt (townL bC) 20 = 1 := by decide +kernel
end Go.Proofs.Ytgnaknanpgfpnaa
