/- The example of the chapter, in plain words. -/
import Derived.Test.YtbmlnflacdockaaDoorPrX
import Derived.Test.YtbmlnflacdockaaDoorCmB
import Derived.Test.YtbmlnflacdockaaDoorPrW
namespace Go.Proofs.YtbmlnflacdockaaDoor
open Go.RowKit

def bEn : ByteArray := ⟨#[101, 110]⟩
def bDe : ByteArray := ⟨#[100, 101]⟩
def townL : List Label := [⟨1, bDe, ⟨#[73, 110, 104, 97, 108, 116]⟩, 0⟩, ⟨1, bEn, ⟨#[67, 111, 110, 116, 101, 110, 116, 115]⟩, 0⟩]
def townF : List Fact := [⟨1, bDe, ⟨#[65, 108, 108, 101, 115]⟩⟩, ⟨1, bEn, ⟨#[83, 101, 101, 32, 91, 57, 93]⟩⟩]
def townS : List Sheet := [⟨7, 0, 1, ⟨#[65]⟩, ⟨#[84, 111, 119, 110]⟩, townF⟩, ⟨9, 7, 3, ⟨#[]⟩, ⟨#[87, 97, 108, 108, 115]⟩, []⟩]
def townC : Cat := ⟨[bEn, bDe], townL, townS⟩
theorem sl_at {α : Type} {k : Nat} {R : CRep α} (hR : Shape k R) {W : World} {g n : Nat} {F : Nat → Prop} {xs : List α} {css : List (List Value)} {t : TypeId} (hl : css.length = xs.length) (h : W.heap[g]? = some (.cells css.flatten.toArray t (0, 0))) (hr : ∀ (i : Nat) x cs, xs[i]? = some x → css[i]? = some cs → R W F x cs) (hF : F g) (hn : n = xs.length) (hb : xs.length ≤ 1000) :
    SlRep k R W F xs (.slice (some ⟨g, 0, none⟩) n n) := by
  subst hn
  refine ⟨_, xs.length, rfl, Nat.le_refl _, by omega, fun i x hx => ?_⟩
  obtain ⟨cs, hcs⟩ := get_at css (show i < css.length by rw [hl]; exact lt_of_at hx)
  refine ⟨g, 0, cs, rfl, hF, hr i x cs hx hcs, fun j u hu => ?_⟩
  rw [Lib.cell_of_heap h]
  have := flatten_at hR hl hr i x cs j u hx hcs hu
  simpa using this
abbrev twO (w : World) : Obj := .cells #[.slice (some ⟨w.heap.size + 1, 0, none⟩) 2 2, .slice (some ⟨w.heap.size + 1 + 1, 0, none⟩) 2 2, .slice (some ⟨w.heap.size + 1 + 1 + 1 + 1, 0, none⟩) 2 2] 40
abbrev tw1 (w : World) : World := w.alloc (twO w)
abbrev tw2 (w : World) : World := (tw1 w).alloc (.cells #[.string ⟨#[101, 110]⟩, .string ⟨#[100, 101]⟩] 9)
abbrev tw3 (w : World) : World := (tw2 w).alloc (.cells #[.int .i64 1, .string ⟨#[100, 101]⟩, .string ⟨#[73, 110, 104, 97, 108, 116]⟩, .int .i64 0, .int .i64 1, .string ⟨#[101, 110]⟩, .string ⟨#[67, 111, 110, 116, 101, 110, 116, 115]⟩, .int .i64 0] 79)
abbrev tw4 (w : World) : World := (tw3 w).alloc (.cells #[.int .i64 1, .string ⟨#[100, 101]⟩, .string ⟨#[65, 108, 108, 101, 115]⟩, .int .i64 1, .string ⟨#[101, 110]⟩, .string ⟨#[83, 101, 101, 32, 91, 57, 93]⟩] 56)
abbrev tw5 (w : World) : World := (tw4 w).alloc (.cells #[.int .i64 7, .int .i64 0, .int .i64 1, .string ⟨#[65]⟩, .string ⟨#[84, 111, 119, 110]⟩, .slice (some ⟨w.heap.size + 1 + 1 + 1, 0, none⟩) 2 2, .int .i64 9, .int .i64 7, .int .i64 3, .string ⟨#[]⟩, .string ⟨#[87, 97, 108, 108, 115]⟩, .slice none 0 0] 49)
theorem flat_row {α : Type} {enc : α → List Value} {W : World} {F : Nat → Prop} {xs : List α} : ∀ (i : Nat) x cs, xs[i]? = some x → (xs.map enc)[i]? = some cs → flat enc W F x cs := fun i x cs hx hcs => by
  rw [List.getElem?_map, hx] at hcs
  injection hcs with hcs
  exact hcs.symm
theorem town_rep (w : World) : CatRep (tw5 w) (tw5 w).heap.size townC (.slice (some ⟨w.heap.size + 1, 0, none⟩) 2 2) (.slice (some ⟨w.heap.size + 1 + 1, 0, none⟩) 2 2) (.slice (some ⟨w.heap.size + 1 + 1 + 1 + 1, 0, none⟩) 2 2) ∧ Below w.heap.size w (tw5 w) ∧ (tw5 w).heap[w.heap.size]? = some (twO w) := by
  have h1 : (tw5 w).heap[w.heap.size + 1]? = some (.cells #[.string ⟨#[101, 110]⟩, .string ⟨#[100, 101]⟩] 9 (0, 0)) := by
    rw [Below.heap_alloc _ _ _ (by simp <;> omega), Below.heap_alloc _ _ _ (by simp <;> omega), Below.heap_alloc _ _ _ (by simp)]
    have := heap_newL (tw1 w) (.cells #[.string ⟨#[101, 110]⟩, .string ⟨#[100, 101]⟩] 9)
    simpa only [World.size_alloc] using this
  have h2 : (tw5 w).heap[w.heap.size + 1 + 1]? = some (.cells #[.int .i64 1, .string ⟨#[100, 101]⟩, .string ⟨#[73, 110, 104, 97, 108, 116]⟩, .int .i64 0, .int .i64 1, .string ⟨#[101, 110]⟩, .string ⟨#[67, 111, 110, 116, 101, 110, 116, 115]⟩, .int .i64 0] 79 (0, 0)) := by
    rw [Below.heap_alloc _ _ _ (by simp <;> omega), Below.heap_alloc _ _ _ (by simp)]
    have := heap_newL (tw2 w) (.cells #[.int .i64 1, .string ⟨#[100, 101]⟩, .string ⟨#[73, 110, 104, 97, 108, 116]⟩, .int .i64 0, .int .i64 1, .string ⟨#[101, 110]⟩, .string ⟨#[67, 111, 110, 116, 101, 110, 116, 115]⟩, .int .i64 0] 79)
    simpa only [World.size_alloc] using this
  have h3 : (tw5 w).heap[w.heap.size + 1 + 1 + 1]? = some (.cells #[.int .i64 1, .string ⟨#[100, 101]⟩, .string ⟨#[65, 108, 108, 101, 115]⟩, .int .i64 1, .string ⟨#[101, 110]⟩, .string ⟨#[83, 101, 101, 32, 91, 57, 93]⟩] 56 (0, 0)) := by
    rw [Below.heap_alloc _ _ _ (by simp)]
    have := heap_newL (tw3 w) (.cells #[.int .i64 1, .string ⟨#[100, 101]⟩, .string ⟨#[65, 108, 108, 101, 115]⟩, .int .i64 1, .string ⟨#[101, 110]⟩, .string ⟨#[83, 101, 101, 32, 91, 57, 93]⟩] 56)
    simpa only [World.size_alloc] using this
  have h4 := heap_newL (tw4 w) (.cells #[.int .i64 7, .int .i64 0, .int .i64 1, .string ⟨#[65]⟩, .string ⟨#[84, 111, 119, 110]⟩, .slice (some ⟨w.heap.size + 1 + 1 + 1, 0, none⟩) 2 2, .int .i64 9, .int .i64 7, .int .i64 3, .string ⟨#[]⟩, .string ⟨#[87, 97, 108, 108, 115]⟩, .slice none 0 0] 49)
  rw [World.size_alloc, World.size_alloc, World.size_alloc, World.size_alloc] at h4
  have hF : SlRep 3 (flat Fact.enc) (tw5 w) (fun b => b < (tw5 w).heap.size) townF (.slice (some ⟨w.heap.size + 1 + 1 + 1, 0, none⟩) 2 2) := sl_at fctS (css := townF.map Fact.enc) rfl h3 flat_row (by simp) rfl (by decide)
  refine ⟨⟨sl_at strS (css := [bEn, bDe].map strEnc) rfl h1 flat_row (by simp) rfl (by decide), sl_at labS (css := townL.map Label.enc) rfl h2 flat_row (by simp) rfl (by decide), ?_⟩, (((((Below.refl _ _).alloc (Nat.le_refl _) _).alloc (by simp) _).alloc (by simp; omega) _).alloc (by simp; omega) _).alloc (by simp; omega) _, ?_⟩
  · refine sl_at shtS (css := [[.int .i64 7, .int .i64 0, .int .i64 1, .string ⟨#[65]⟩, .string ⟨#[84, 111, 119, 110]⟩, .slice (some ⟨w.heap.size + 1 + 1 + 1, 0, none⟩) 2 2], [.int .i64 9, .int .i64 7, .int .i64 3, .string ⟨#[]⟩, .string ⟨#[87, 97, 108, 108, 115]⟩, .slice none 0 0]]) rfl h4 (fun i x cs hx hcs => ?_) (by simp) rfl (by decide)
    rcases i with _ | _ | i
    · injection hx with hx
      injection hcs with hcs
      subst hx hcs
      exact ⟨_, rfl, hF⟩
    · injection hx with hx
      injection hcs with hcs
      subst hx hcs
      exact ⟨_, rfl, SlRep.nil_⟩
    · simp [townC, townS] at hx
  · rw [Below.heap_alloc _ _ _ (by simp <;> omega), Below.heap_alloc _ _ _ (by simp <;> omega), Below.heap_alloc _ _ _ (by simp <;> omega), Below.heap_alloc _ _ _ (by simp)]
    exact heap_newL w _
set_option maxRecDepth 100000 in
set_option maxHeartbeats 4000000 in
theorem town_c (w : World) :
    Calls Tryd.prog 31 #[] w fun e w' => ∃ v1 v2 v3, e = .returned (.agg #[v1, v2, v3]) ∧ CatRep w' w'.heap.size townC v1 v2 v3 ∧ Below w.heap.size w w' := by
  obtain ⟨h1, h2, h3⟩ := town_rep w
  have e0 : (tw5 w).cell? ⟨w.heap.size, 0, none⟩ = some (.slice (some ⟨w.heap.size + 1, 0, none⟩) 2 2) := by rw [Lib.cell_of_heap h3]; rfl
  have e1 : (tw5 w).cell? ⟨w.heap.size, 1, none⟩ = some (.slice (some ⟨w.heap.size + 1 + 1, 0, none⟩) 2 2) := by rw [Lib.cell_of_heap h3]; rfl
  have e2 : (tw5 w).cell? ⟨w.heap.size, 2, none⟩ = some (.slice (some ⟨w.heap.size + 1 + 1 + 1 + 1, 0, none⟩) 2 2) := by rw [Lib.cell_of_heap h3]; rfl
  have HH := Lib.hid (And.intro h1 h2)
  clear h1 h2 h3
  go_enter Tryd.func31, Tryd.ntmps31
  go_wp2
  refine bodyPost_ret (v := .agg #[.slice (some ⟨w.heap.size + 1, 0, none⟩) 2 2, .slice (some ⟨w.heap.size + 1 + 1, 0, none⟩) 2 2, .slice (some ⟨w.heap.size + 1 + 1 + 1 + 1, 0, none⟩) 2 2]) (by simp [results, Tryd.results31, go_sem, e0, e1, e2]) rfl ⟨_, _, _, rfl, HH.out⟩
open Go.RowKit

def townN : List Node := [⟨0, ⟨#[102, 111, 110, 100, 115]⟩, ⟨#[49, 32, 84, 111, 119, 110]⟩⟩, ⟨1, ⟨#[109, 97, 114, 107]⟩, ⟨#[65]⟩⟩, ⟨1, ⟨#[112]⟩, ⟨#[67, 111, 110, 116, 101, 110, 116, 115, 58, 32, 83, 101, 101, 32, 87, 97, 108, 108, 115]⟩⟩, ⟨1, ⟨#[102, 105, 108, 101]⟩, ⟨#[49, 46, 49, 32, 87, 97, 108, 108, 115]⟩⟩]
set_option maxRecDepth 100000 in
theorem town_ok : catE townC = 0 := by decide +kernel
set_option maxRecDepth 100000 in
theorem town_cmp : cmpE townC 7 bEn = 0 := by decide +kernel
set_option maxRecDepth 100000 in
theorem town_doc : fltE (nodesF (aidF townC 7 bEn)) = 0 := by decide +kernel
set_option maxRecDepth 100000 in
theorem town_nodes : eqL eqNode (docL (aidF townC 7 bEn)) townN = true := by decide +kernel
set_option maxRecDepth 100000 in
theorem town_len : (aidF townC 7 bEn).length = 2 ∧ (∀ k, k < 3 → (nodesF ((aidF townC 7 bEn).take k)).length ≤ 100) := by decide +kernel
set_option maxRecDepth 100000 in
theorem town_numU : numU townC 7 9 = ⟨#[49, 46, 49]⟩ := by decide +kernel
set_option maxRecDepth 100000 in
theorem town_name : nameR townC 1 bDe = ⟨#[73, 110, 104, 97, 108, 116]⟩ := by decide +kernel
set_option maxRecDepth 100000 in
theorem town_cite : citeR townC 7 = ⟨#[65, 32, 84, 111, 119, 110]⟩ := by decide +kernel
set_option maxRecDepth 100000 in
theorem town_cho : (chooseR townC 7 bDe).map (fun f => (f.el, f.lang, f.text)) = [(1, bDe, ⟨#[65, 108, 108, 101, 115]⟩)] := by decide +kernel
theorem fact_map {l : List Fact} {a : Int} {b c : ByteArray} (h : l.map (fun f => (f.el, f.lang, f.text)) = [(a, b, c)]) : l = [⟨a, b, c⟩] := by
  rcases l with _ | ⟨⟨a', b', c'⟩, _ | ⟨g, r⟩⟩
  · cases h
  · simp at h
    obtain ⟨h1, h2, h3⟩ := h
    rw [h1, h2, h3]
  · simp at h
theorem town_cho' : chooseR townC 7 bDe = [⟨1, bDe, ⟨#[65, 108, 108, 101, 115]⟩⟩] := fact_map town_cho
theorem town_take (k : Nat) : (nodesF ((aidF townC 7 bEn).take k)).length ≤ 1000000 := by
  rcases Nat.lt_or_ge k 3 with h | h
  · exact Nat.le_trans (town_len.2 k h) (by decide)
  · have e : (aidF townC 7 bEn).take k = (aidF townC 7 bEn).take 2 := by rw [List.take_of_length_le (by rw [town_len.1]; omega), List.take_of_length_le (by rw [town_len.1]; exact Nat.le_refl _)]
    rw [e]
    exact Nat.le_trans (town_len.2 2 (by decide)) (by decide)
theorem town_14 : catE townC = 0 → townC.sheets.length ≤ 14 := fun _ => by decide
end Go.Proofs.YtbmlnflacdockaaDoor
