/- The example of chapter 47, as it lies in memory, with a title that may be turned; slices.Equal at ints and strings that read alike. -/
import Derived.Test.YtngodakkdhdmjaaGreatDoorPri
namespace Go.Proofs.YtngodakkdhdmjaaGreatDoor
open Go.RowKit

theorem heap_newL (w : World) (o : Obj) : (w.alloc o).heap[w.heap.size]? = some o := by
  show (w.heap.push o)[w.heap.size]? = _
  simp
def bEn : ByteArray := ⟨#[101, 110]⟩
def bDe : ByteArray := ⟨#[100, 101]⟩
def townL : List Label := [⟨1, bDe, ⟨#[73, 110, 104, 97, 108, 116]⟩, 0⟩, ⟨1, bEn, ⟨#[67, 111, 110, 116, 101, 110, 116, 115]⟩, 0⟩]
def townF : List Fact := [⟨1, bDe, ⟨#[65, 108, 108, 101, 115]⟩⟩, ⟨1, bEn, ⟨#[83, 101, 101, 32, 91, 57, 93]⟩⟩]
def bWalls : ByteArray := ⟨#[87, 97, 108, 108, 115]⟩
def bOld : ByteArray := ⟨#[79, 108, 100, 32, 119, 97, 108, 108, 115]⟩
def townS (t : ByteArray) : List Sheet := [⟨7, 0, 1, ⟨#[65]⟩, ⟨#[84, 111, 119, 110]⟩, townF⟩, ⟨9, 7, 3, ⟨#[]⟩, t, []⟩]
/-- the example's catalog, with a title -/
def townT (t : ByteArray) : Cat := ⟨[bEn, bDe], townL, townS t⟩
theorem sl_at {α : Type} {k : Nat} {R : CRep α} (hR : Shape k R) {W : World} {g n : Nat} {F : Nat → Prop} {xs : List α} {css : List (List Value)} {t : TypeId} (hl : css.length = xs.length) (h : W.heap[g]? = some (.cells css.flatten.toArray t (0, 0))) (hr : ∀ (i : Nat) x cs, xs[i]? = some x → css[i]? = some cs → R W F x cs) (hF : F g) (hn : n = xs.length) (hb : xs.length ≤ 1000) :
    SlRep k R W F xs (.slice (some ⟨g, 0, none⟩) n n) := by
  subst hn
  refine ⟨_, xs.length, rfl, Nat.le_refl _, by omega, fun i x hx => ?_⟩
  obtain ⟨cs, hcs⟩ := get_at css (show i < css.length by rw [hl]; exact lt_of_at hx)
  refine ⟨g, 0, cs, rfl, hF, hr i x cs hx hcs, fun j u hu => ?_⟩
  rw [Lib.cell_of_heap h]
  have := flatten_at hR hl hr i x cs j u hx hcs hu
  simpa using this
abbrev twO (w : World) : Obj := .cells #[.slice (some ⟨w.heap.size + 1, 0, none⟩) 2 2, .slice (some ⟨w.heap.size + 1 + 1, 0, none⟩) 2 2, .slice (some ⟨w.heap.size + 1 + 1 + 1 + 1, 0, none⟩) 2 2] 41
abbrev tw1 (w : World) : World := w.alloc (twO w)
abbrev tw2 (w : World) : World := (tw1 w).alloc (.cells #[.string ⟨#[101, 110]⟩, .string ⟨#[100, 101]⟩] 9)
abbrev tw3 (w : World) : World := (tw2 w).alloc (.cells #[.int .i64 1, .string ⟨#[100, 101]⟩, .string ⟨#[73, 110, 104, 97, 108, 116]⟩, .int .i64 0, .int .i64 1, .string ⟨#[101, 110]⟩, .string ⟨#[67, 111, 110, 116, 101, 110, 116, 115]⟩, .int .i64 0] 127)
abbrev tw4 (w : World) : World := (tw3 w).alloc (.cells #[.int .i64 1, .string ⟨#[100, 101]⟩, .string ⟨#[65, 108, 108, 101, 115]⟩, .int .i64 1, .string ⟨#[101, 110]⟩, .string ⟨#[83, 101, 101, 32, 91, 57, 93]⟩] 93)
abbrev tw5 (w : World) : World := (tw4 w).alloc (.cells #[.int .i64 7, .int .i64 0, .int .i64 1, .string ⟨#[65]⟩, .string ⟨#[84, 111, 119, 110]⟩, .slice (some ⟨w.heap.size + 1 + 1 + 1, 0, none⟩) 2 2, .int .i64 9, .int .i64 7, .int .i64 3, .string ⟨#[]⟩, .string ⟨#[87, 97, 108, 108, 115]⟩, .slice none 0 0] 59)
theorem flat_row {α : Type} {enc : α → List Value} {W : World} {F : Nat → Prop} {xs : List α} : ∀ (i : Nat) x cs, xs[i]? = some x → (xs.map enc)[i]? = some cs → flat enc W F x cs := fun i x cs hx hcs => by
  rw [List.getElem?_map, hx] at hcs
  injection hcs with hcs
  exact hcs.symm
abbrev shO (b : Nat) (t : ByteArray) : Obj := .cells #[.int .i64 7, .int .i64 0, .int .i64 1, .string ⟨#[65]⟩, .string ⟨#[84, 111, 119, 110]⟩, .slice (some ⟨b + 1 + 1 + 1, 0, none⟩) 2 2, .int .i64 9, .int .i64 7, .int .i64 3, .string ⟨#[]⟩, .string t, .slice none 0 0] 59 (0, 0)
/-- the example's catalog as it lies in memory -/
structure TownAt (W : World) (b : Nat) (t : ByteArray) : Prop where
  l1 : W.heap[b + 1]? = some (.cells #[.string ⟨#[101, 110]⟩, .string ⟨#[100, 101]⟩] 9 (0, 0))
  l2 : W.heap[b + 1 + 1]? = some (.cells #[.int .i64 1, .string ⟨#[100, 101]⟩, .string ⟨#[73, 110, 104, 97, 108, 116]⟩, .int .i64 0, .int .i64 1, .string ⟨#[101, 110]⟩, .string ⟨#[67, 111, 110, 116, 101, 110, 116, 115]⟩, .int .i64 0] 127 (0, 0))
  l3 : W.heap[b + 1 + 1 + 1]? = some (.cells #[.int .i64 1, .string ⟨#[100, 101]⟩, .string ⟨#[65, 108, 108, 101, 115]⟩, .int .i64 1, .string ⟨#[101, 110]⟩, .string ⟨#[83, 101, 101, 32, 91, 57, 93]⟩] 93 (0, 0))
  l4 : W.heap[b + 1 + 1 + 1 + 1]? = some (shO b t)
abbrev tv1 (b : Nat) : Value := .slice (some ⟨b + 1, 0, none⟩) 2 2
abbrev tv2 (b : Nat) : Value := .slice (some ⟨b + 1 + 1, 0, none⟩) 2 2
abbrev tv3 (b : Nat) : Value := .slice (some ⟨b + 1 + 1 + 1 + 1, 0, none⟩) 2 2
theorem heap_ltQ {w : World} {b : Nat} {o : Obj} (h : w.heap[b]? = some o) : b < w.heap.size := by
  rcases Nat.lt_or_ge b w.heap.size with hlt | hge
  · exact hlt
  · rw [Array.getElem?_eq_none hge] at h
    cases h
theorem TownAt.rep {W : World} {b : Nat} {t : ByteArray} (h : TownAt W b t) : CatRep W W.heap.size (townT t) (tv1 b) (tv2 b) (tv3 b) := by
  have q1 := heap_ltQ h.l1
  have q2 := heap_ltQ h.l2
  have q3 := heap_ltQ h.l3
  have q4 := heap_ltQ h.l4
  have hF : SlRep 3 (flat Fact.enc) W (fun b => b < W.heap.size) townF (.slice (some ⟨b + 1 + 1 + 1, 0, none⟩) 2 2) := sl_at fctS (css := townF.map Fact.enc) rfl h.l3 flat_row q3 rfl (by decide)
  refine ⟨sl_at strS (css := [bEn, bDe].map strEnc) rfl h.l1 flat_row q1 rfl (by show 2 ≤ 1000; decide), sl_at labS (css := townL.map Label.enc) rfl h.l2 flat_row q2 rfl (by show 2 ≤ 1000; decide), ?_⟩
  refine sl_at shtS (css := [[.int .i64 7, .int .i64 0, .int .i64 1, .string ⟨#[65]⟩, .string ⟨#[84, 111, 119, 110]⟩, .slice (some ⟨b + 1 + 1 + 1, 0, none⟩) 2 2], [.int .i64 9, .int .i64 7, .int .i64 3, .string ⟨#[]⟩, .string t, .slice none 0 0]]) rfl h.l4 (fun i x cs hx hcs => ?_) q4 rfl (by show 2 ≤ 1000; decide)
  rcases i with _ | _ | i
  · injection hx with hx
    injection hcs with hcs
    subst hx hcs
    exact ⟨_, rfl, hF⟩
  · injection hx with hx
    injection hcs with hcs
    subst hx hcs
    exact ⟨_, rfl, SlRep.nil_⟩
  · simp [townT, townS] at hx
theorem TownAt.call {W W' : World} {b : Nat} {t : ByteArray} (h : TownAt W b t) (hb : Below W.heap.size W W') : TownAt W' b t :=
  ⟨(hb.block _ (heap_ltQ h.l1)).trans h.l1, (hb.block _ (heap_ltQ h.l2)).trans h.l2, (hb.block _ (heap_ltQ h.l3)).trans h.l3, (hb.block _ (heap_ltQ h.l4)).trans h.l4⟩
theorem TownAt.set {W : World} {b : Nat} {t : ByteArray} (h : TownAt W b t) (t' : ByteArray) : TownAt (W.setCell ⟨b + 1 + 1 + 1 + 1, 10, none⟩ (.string t')) b t' := by
  refine ⟨?_, ?_, ?_, ?_⟩
  · rw [Below.heap_setCell _ _ _ _ (show b + 1 ≠ b + 1 + 1 + 1 + 1 by omega)]; exact h.l1
  · rw [Below.heap_setCell _ _ _ _ (show b + 1 + 1 ≠ b + 1 + 1 + 1 + 1 by omega)]; exact h.l2
  · rw [Below.heap_setCell _ _ _ _ (show b + 1 + 1 + 1 ≠ b + 1 + 1 + 1 + 1 by omega)]; exact h.l3
  · simp [World.setCell, Array.getElem?_modify, h.l4]
set_option maxRecDepth 100000 in
set_option maxHeartbeats 4000000 in
theorem town5_c (w : World) :
    Calls Tryz.prog 37 #[] w fun e w' => e = .returned (.agg #[tv1 w.heap.size, tv2 w.heap.size, tv3 w.heap.size]) ∧ TownAt w' w.heap.size bWalls ∧ w.heap.size + 5 ≤ w'.heap.size ∧ Below w.heap.size w w' := by
  have h0 : (tw5 w).heap[w.heap.size]? = some (twO w) := by
    rw [Below.heap_alloc _ _ _ (by simp; omega), Below.heap_alloc _ _ _ (by simp; omega), Below.heap_alloc _ _ _ (by simp; omega), Below.heap_alloc _ _ _ (by simp)]
    exact heap_newL w _
  have h1 : (tw5 w).heap[w.heap.size + 1]? = some (.cells #[.string ⟨#[101, 110]⟩, .string ⟨#[100, 101]⟩] 9 (0, 0)) := by
    rw [Below.heap_alloc _ _ _ (by simp <;> omega), Below.heap_alloc _ _ _ (by simp <;> omega), Below.heap_alloc _ _ _ (by simp)]
    have := heap_newL (tw1 w) (.cells #[.string ⟨#[101, 110]⟩, .string ⟨#[100, 101]⟩] 9)
    simpa only [World.size_alloc] using this
  have h2 : (tw5 w).heap[w.heap.size + 1 + 1]? = some (.cells #[.int .i64 1, .string ⟨#[100, 101]⟩, .string ⟨#[73, 110, 104, 97, 108, 116]⟩, .int .i64 0, .int .i64 1, .string ⟨#[101, 110]⟩, .string ⟨#[67, 111, 110, 116, 101, 110, 116, 115]⟩, .int .i64 0] 127 (0, 0)) := by
    rw [Below.heap_alloc _ _ _ (by simp <;> omega), Below.heap_alloc _ _ _ (by simp)]
    have := heap_newL (tw2 w) (.cells #[.int .i64 1, .string ⟨#[100, 101]⟩, .string ⟨#[73, 110, 104, 97, 108, 116]⟩, .int .i64 0, .int .i64 1, .string ⟨#[101, 110]⟩, .string ⟨#[67, 111, 110, 116, 101, 110, 116, 115]⟩, .int .i64 0] 127)
    simpa only [World.size_alloc] using this
  have h3 : (tw5 w).heap[w.heap.size + 1 + 1 + 1]? = some (.cells #[.int .i64 1, .string ⟨#[100, 101]⟩, .string ⟨#[65, 108, 108, 101, 115]⟩, .int .i64 1, .string ⟨#[101, 110]⟩, .string ⟨#[83, 101, 101, 32, 91, 57, 93]⟩] 93 (0, 0)) := by
    rw [Below.heap_alloc _ _ _ (by simp)]
    have := heap_newL (tw3 w) (.cells #[.int .i64 1, .string ⟨#[100, 101]⟩, .string ⟨#[65, 108, 108, 101, 115]⟩, .int .i64 1, .string ⟨#[101, 110]⟩, .string ⟨#[83, 101, 101, 32, 91, 57, 93]⟩] 93)
    simpa only [World.size_alloc] using this
  have h4 : (tw5 w).heap[w.heap.size + 1 + 1 + 1 + 1]? = some (shO w.heap.size bWalls) := by
    have h4 := heap_newL (tw4 w) (.cells #[.int .i64 7, .int .i64 0, .int .i64 1, .string ⟨#[65]⟩, .string ⟨#[84, 111, 119, 110]⟩, .slice (some ⟨w.heap.size + 1 + 1 + 1, 0, none⟩) 2 2, .int .i64 9, .int .i64 7, .int .i64 3, .string ⟨#[]⟩, .string ⟨#[87, 97, 108, 108, 115]⟩, .slice none 0 0] 59)
    rw [World.size_alloc, World.size_alloc, World.size_alloc, World.size_alloc] at h4
    exact h4
  have hb : Below w.heap.size w (tw5 w) := (((((Below.refl _ _).alloc (Nat.le_refl _) _).alloc (by simp) _).alloc (by simp; omega) _).alloc (by simp; omega) _).alloc (by simp; omega) _
  have e0 : (tw5 w).cell? ⟨w.heap.size, 0, none⟩ = some (.slice (some ⟨w.heap.size + 1, 0, none⟩) 2 2) := by rw [Lib.cell_of_heap h0]; rfl
  have e1 : (tw5 w).cell? ⟨w.heap.size, 1, none⟩ = some (.slice (some ⟨w.heap.size + 1 + 1, 0, none⟩) 2 2) := by rw [Lib.cell_of_heap h0]; rfl
  have e2 : (tw5 w).cell? ⟨w.heap.size, 2, none⟩ = some (.slice (some ⟨w.heap.size + 1 + 1 + 1 + 1, 0, none⟩) 2 2) := by rw [Lib.cell_of_heap h0]; rfl
  have HH := Lib.hid (show TownAt (tw5 w) w.heap.size bWalls ∧ w.heap.size + 5 ≤ (tw5 w).heap.size ∧ Below w.heap.size w (tw5 w) from ⟨⟨h1, h2, h3, h4⟩, by simp, hb⟩)
  clear h0 h1 h2 h3 h4 hb
  go_enter Tryz.func37, Tryz.ntmps37
  go_wp2
  refine bodyPost_ret (v := .agg #[.slice (some ⟨w.heap.size + 1, 0, none⟩) 2 2, .slice (some ⟨w.heap.size + 1 + 1, 0, none⟩) 2 2, .slice (some ⟨w.heap.size + 1 + 1 + 1 + 1, 0, none⟩) 2 2]) (by simp [results, Tryz.results37, go_sem, e0, e1, e2]) rfl ⟨rfl, HH.out⟩
/-- slices.Equal at two slices that read alike -/
theorem equalSt_c (xs : List ByteArray) (v v' : Value) (w : World) (B : Nat) (hB : B ≤ w.heap.size) (h : SlRep 1 (flat strEnc) w (fun b => b < B) xs v) (h' : SlRep 1 (flat strEnc) w (fun b => b < B) xs v') :
    Calls Tryz.prog 14 #[v, v'] w fun e w' => e = .returned (.bool true) ∧ Below w.heap.size w w' := by
  obtain ⟨A, c, rfl, hc1, hc2, _⟩ := id h
  obtain ⟨A', c', rfl, hd1, hd2, _⟩ := id h'
  go_enter Tryz.func14, Tryz.ntmps14
  go_wp2
  go_loopw [13] (fun i wr => ∃ k : Nat, k ≤ xs.length ∧ i = .int .i64 k ∧ ∃ n, wr = w.drewN n) (fun i _ => xs.length - (intOf i).toNat)
  case atStart => exact ⟨0, Nat.zero_le _, rfl, 0, rfl⟩
  case round =>
    obtain ⟨k, hk, rfl, nd, rfl⟩ := hrel
    by_cases hlt : k < xs.length
    · obtain ⟨x, hx⟩ := get_at xs hlt
      obtain ⟨b, off, rfl, hbB, g0⟩ := Strs.at_ h hx
      obtain ⟨b', off', rfl, hbB', q0⟩ := Strs.at_ h' hx
      have hbw : b < w.heap.size := by have : b < B := hbB; omega
      have hbw' : b' < w.heap.size := by have : b' < B := hbB'; omega
      clear hx
      go_wp2
      go_quiet (fail)
      go_wp2
      go_roundw
      case rel => exact ⟨k + 1, by omega, by go_num, _, rfl⟩
      case measure => simp [intOf]; omega
    · go_wp2
      go_ret
      exact ⟨rfl, below_of_drew _ ⟨_, rfl⟩⟩
end Go.Proofs.YtngodakkdhdmjaaGreatDoor
