/- The examples of the chapter: awake returns true. -/
import Derived.Test.YtbmlnflacdockaaGreatDoorPrX
import Derived.Test.YtbmlnflacdockaaGreatDoorCmB
import Derived.Test.YtbmlnflacdockaaGreatDoorPrW
namespace Go.Proofs.YtbmlnflacdockaaGreatDoor
open Go.RowKit

def bEn : ByteArray := ⟨#[101, 110]⟩
def bDe : ByteArray := ⟨#[100, 101]⟩
def townL : List Label := [⟨1, bDe, ⟨#[73, 110, 104, 97, 108, 116]⟩, 0⟩, ⟨1, bEn, ⟨#[67, 111, 110, 116, 101, 110, 116, 115]⟩, 0⟩]
def townF : List Fact := [⟨1, bDe, ⟨#[65, 108, 108, 101, 115]⟩⟩, ⟨1, bEn, ⟨#[83, 101, 101, 32, 91, 57, 93]⟩⟩]
def townS : List Sheet := [⟨7, 0, 1, ⟨#[65]⟩, ⟨#[84, 111, 119, 110]⟩, townF⟩, ⟨9, 7, 3, ⟨#[]⟩, ⟨#[87, 97, 108, 108, 115]⟩, []⟩]
def townC : Cat := ⟨[bEn, bDe], townL, townS⟩
theorem sl_at {α : Type} {k : Nat} {R : CRep α} (hR : Shape k R) {W : World} {g n : Nat} {F : Nat → Prop} {xs : List α} {css : List (List Value)} {t : TypeId} (hl : css.length = xs.length) (h : W.heap[g]? = some (.cells css.flatten.toArray t (0, 0))) (hr : ∀ (i : Nat) x cs, xs[i]? = some x → css[i]? = some cs → R W F x cs) (hF : F g) (hn : n = xs.length) (hb : xs.length ≤ 1000) :
    SlRep k R W F xs (.slice (some ⟨g, 0, none⟩) n n) := by
  subst hn
  refine ⟨_, xs.length, rfl, Nat.le_refl _, by omega, fun i x hx => ?_⟩
  obtain ⟨cs, hcs⟩ := get_at css (show i < css.length by rw [hl]; exact lt_of_at hx)
  refine ⟨g, 0, cs, rfl, hF, hr i x cs hx hcs, fun j u hu => ?_⟩
  rw [Lib.cell_of_heap h]
  have := flatten_at hR hl hr i x cs j u hx hcs hu
  simpa using this
abbrev twO (w : World) : Obj := .cells #[.slice (some ⟨w.heap.size + 1, 0, none⟩) 2 2, .slice (some ⟨w.heap.size + 1 + 1, 0, none⟩) 2 2, .slice (some ⟨w.heap.size + 1 + 1 + 1 + 1, 0, none⟩) 2 2] 26
abbrev tw1 (w : World) : World := w.alloc (twO w)
abbrev tw2 (w : World) : World := (tw1 w).alloc (.cells #[.string ⟨#[101, 110]⟩, .string ⟨#[100, 101]⟩] 9)
abbrev tw3 (w : World) : World := (tw2 w).alloc (.cells #[.int .i64 1, .string ⟨#[100, 101]⟩, .string ⟨#[73, 110, 104, 97, 108, 116]⟩, .int .i64 0, .int .i64 1, .string ⟨#[101, 110]⟩, .string ⟨#[67, 111, 110, 116, 101, 110, 116, 115]⟩, .int .i64 0] 63)
abbrev tw4 (w : World) : World := (tw3 w).alloc (.cells #[.int .i64 1, .string ⟨#[100, 101]⟩, .string ⟨#[65, 108, 108, 101, 115]⟩, .int .i64 1, .string ⟨#[101, 110]⟩, .string ⟨#[83, 101, 101, 32, 91, 57, 93]⟩] 49)
abbrev tw5 (w : World) : World := (tw4 w).alloc (.cells #[.int .i64 7, .int .i64 0, .int .i64 1, .string ⟨#[65]⟩, .string ⟨#[84, 111, 119, 110]⟩, .slice (some ⟨w.heap.size + 1 + 1 + 1, 0, none⟩) 2 2, .int .i64 9, .int .i64 7, .int .i64 3, .string ⟨#[]⟩, .string ⟨#[87, 97, 108, 108, 115]⟩, .slice none 0 0] 65)
theorem flat_row {α : Type} {enc : α → List Value} {W : World} {F : Nat → Prop} {xs : List α} : ∀ (i : Nat) x cs, xs[i]? = some x → (xs.map enc)[i]? = some cs → flat enc W F x cs := fun i x cs hx hcs => by
  rw [List.getElem?_map, hx] at hcs
  injection hcs with hcs
  exact hcs.symm
theorem town_rep (w : World) : CatRep (tw5 w) (tw5 w).heap.size townC (.slice (some ⟨w.heap.size + 1, 0, none⟩) 2 2) (.slice (some ⟨w.heap.size + 1 + 1, 0, none⟩) 2 2) (.slice (some ⟨w.heap.size + 1 + 1 + 1 + 1, 0, none⟩) 2 2) ∧ Below w.heap.size w (tw5 w) ∧ (tw5 w).heap[w.heap.size]? = some (twO w) := by
  have h1 : (tw5 w).heap[w.heap.size + 1]? = some (.cells #[.string ⟨#[101, 110]⟩, .string ⟨#[100, 101]⟩] 9 (0, 0)) := by
    rw [Below.heap_alloc _ _ _ (by simp <;> omega), Below.heap_alloc _ _ _ (by simp <;> omega), Below.heap_alloc _ _ _ (by simp)]
    have := heap_newL (tw1 w) (.cells #[.string ⟨#[101, 110]⟩, .string ⟨#[100, 101]⟩] 9)
    simpa only [World.size_alloc] using this
  have h2 : (tw5 w).heap[w.heap.size + 1 + 1]? = some (.cells #[.int .i64 1, .string ⟨#[100, 101]⟩, .string ⟨#[73, 110, 104, 97, 108, 116]⟩, .int .i64 0, .int .i64 1, .string ⟨#[101, 110]⟩, .string ⟨#[67, 111, 110, 116, 101, 110, 116, 115]⟩, .int .i64 0] 63 (0, 0)) := by
    rw [Below.heap_alloc _ _ _ (by simp <;> omega), Below.heap_alloc _ _ _ (by simp)]
    have := heap_newL (tw2 w) (.cells #[.int .i64 1, .string ⟨#[100, 101]⟩, .string ⟨#[73, 110, 104, 97, 108, 116]⟩, .int .i64 0, .int .i64 1, .string ⟨#[101, 110]⟩, .string ⟨#[67, 111, 110, 116, 101, 110, 116, 115]⟩, .int .i64 0] 63)
    simpa only [World.size_alloc] using this
  have h3 : (tw5 w).heap[w.heap.size + 1 + 1 + 1]? = some (.cells #[.int .i64 1, .string ⟨#[100, 101]⟩, .string ⟨#[65, 108, 108, 101, 115]⟩, .int .i64 1, .string ⟨#[101, 110]⟩, .string ⟨#[83, 101, 101, 32, 91, 57, 93]⟩] 49 (0, 0)) := by
    rw [Below.heap_alloc _ _ _ (by simp)]
    have := heap_newL (tw3 w) (.cells #[.int .i64 1, .string ⟨#[100, 101]⟩, .string ⟨#[65, 108, 108, 101, 115]⟩, .int .i64 1, .string ⟨#[101, 110]⟩, .string ⟨#[83, 101, 101, 32, 91, 57, 93]⟩] 49)
    simpa only [World.size_alloc] using this
  have h4 := heap_newL (tw4 w) (.cells #[.int .i64 7, .int .i64 0, .int .i64 1, .string ⟨#[65]⟩, .string ⟨#[84, 111, 119, 110]⟩, .slice (some ⟨w.heap.size + 1 + 1 + 1, 0, none⟩) 2 2, .int .i64 9, .int .i64 7, .int .i64 3, .string ⟨#[]⟩, .string ⟨#[87, 97, 108, 108, 115]⟩, .slice none 0 0] 65)
  rw [World.size_alloc, World.size_alloc, World.size_alloc, World.size_alloc] at h4
  have hF : SlRep 3 (flat Fact.enc) (tw5 w) (fun b => b < (tw5 w).heap.size) townF (.slice (some ⟨w.heap.size + 1 + 1 + 1, 0, none⟩) 2 2) := sl_at fctS (css := townF.map Fact.enc) rfl h3 flat_row (by simp) rfl (by decide)
  refine ⟨⟨sl_at strS (css := [bEn, bDe].map strEnc) rfl h1 flat_row (by simp) rfl (by decide), sl_at labS (css := townL.map Label.enc) rfl h2 flat_row (by simp) rfl (by decide), ?_⟩, (((((Below.refl _ _).alloc (Nat.le_refl _) _).alloc (by simp) _).alloc (by simp; omega) _).alloc (by simp; omega) _).alloc (by simp; omega) _, ?_⟩
  · refine sl_at shtS (css := [[.int .i64 7, .int .i64 0, .int .i64 1, .string ⟨#[65]⟩, .string ⟨#[84, 111, 119, 110]⟩, .slice (some ⟨w.heap.size + 1 + 1 + 1, 0, none⟩) 2 2], [.int .i64 9, .int .i64 7, .int .i64 3, .string ⟨#[]⟩, .string ⟨#[87, 97, 108, 108, 115]⟩, .slice none 0 0]]) rfl h4 (fun i x cs hx hcs => ?_) (by simp) rfl (by decide)
    rcases i with _ | _ | i
    · injection hx with hx
      injection hcs with hcs
      subst hx hcs
      exact ⟨_, rfl, hF⟩
    · injection hx with hx
      injection hcs with hcs
      subst hx hcs
      exact ⟨_, rfl, SlRep.nil_⟩
    · simp [townC, townS] at hx
  · rw [Below.heap_alloc _ _ _ (by simp <;> omega), Below.heap_alloc _ _ _ (by simp <;> omega), Below.heap_alloc _ _ _ (by simp <;> omega), Below.heap_alloc _ _ _ (by simp)]
    exact heap_newL w _
set_option maxRecDepth 100000 in
set_option maxHeartbeats 4000000 in
theorem town_c (w : World) :
    Calls Tryz.prog 28 #[] w fun e w' => ∃ v1 v2 v3, e = .returned (.agg #[v1, v2, v3]) ∧ CatRep w' w'.heap.size townC v1 v2 v3 ∧ Below w.heap.size w w' := by
  obtain ⟨h1, h2, h3⟩ := town_rep w
  have e0 : (tw5 w).cell? ⟨w.heap.size, 0, none⟩ = some (.slice (some ⟨w.heap.size + 1, 0, none⟩) 2 2) := by rw [Lib.cell_of_heap h3]; rfl
  have e1 : (tw5 w).cell? ⟨w.heap.size, 1, none⟩ = some (.slice (some ⟨w.heap.size + 1 + 1, 0, none⟩) 2 2) := by rw [Lib.cell_of_heap h3]; rfl
  have e2 : (tw5 w).cell? ⟨w.heap.size, 2, none⟩ = some (.slice (some ⟨w.heap.size + 1 + 1 + 1 + 1, 0, none⟩) 2 2) := by rw [Lib.cell_of_heap h3]; rfl
  have HH := Lib.hid (And.intro h1 h2)
  clear h1 h2 h3
  go_enter Tryz.func28, Tryz.ntmps28
  go_wp2
  refine bodyPost_ret (v := .agg #[.slice (some ⟨w.heap.size + 1, 0, none⟩) 2 2, .slice (some ⟨w.heap.size + 1 + 1, 0, none⟩) 2 2, .slice (some ⟨w.heap.size + 1 + 1 + 1 + 1, 0, none⟩) 2 2]) (by simp [results, Tryz.results28, go_sem, e0, e1, e2]) rfl ⟨_, _, _, rfl, HH.out⟩
open Go.RowKit

def townN : List Node := [⟨0, ⟨#[102, 111, 110, 100, 115]⟩, ⟨#[49, 32, 84, 111, 119, 110]⟩⟩, ⟨1, ⟨#[109, 97, 114, 107]⟩, ⟨#[65]⟩⟩, ⟨1, ⟨#[112]⟩, ⟨#[67, 111, 110, 116, 101, 110, 116, 115, 58, 32, 83, 101, 101, 32, 87, 97, 108, 108, 115]⟩⟩, ⟨1, ⟨#[102, 105, 108, 101]⟩, ⟨#[49, 46, 49, 32, 87, 97, 108, 108, 115]⟩⟩]
set_option maxRecDepth 100000 in
theorem town_ok : catE townC = 0 := by decide +kernel
set_option maxRecDepth 100000 in
theorem town_cmp : cmpE townC 7 bEn = 0 := by decide +kernel
set_option maxRecDepth 100000 in
theorem town_doc : fltE (nodesF (aidF townC 7 bEn)) = 0 := by decide +kernel
set_option maxRecDepth 100000 in
theorem town_nodes : eqL eqNode (docL (aidF townC 7 bEn)) townN = true := by decide +kernel
set_option maxRecDepth 100000 in
theorem town_len : (aidF townC 7 bEn).length = 2 ∧ (∀ k, k < 3 → (nodesF ((aidF townC 7 bEn).take k)).length ≤ 100) := by decide +kernel
set_option maxRecDepth 100000 in
theorem town_numU : numU townC 7 9 = ⟨#[49, 46, 49]⟩ := by decide +kernel
set_option maxRecDepth 100000 in
theorem town_name : nameR townC 1 bDe = ⟨#[73, 110, 104, 97, 108, 116]⟩ := by decide +kernel
set_option maxRecDepth 100000 in
theorem town_cite : citeR townC 7 = ⟨#[65, 32, 84, 111, 119, 110]⟩ := by decide +kernel
set_option maxRecDepth 100000 in
theorem town_cho : (chooseR townC 7 bDe).map (fun f => (f.el, f.lang, f.text)) = [(1, bDe, ⟨#[65, 108, 108, 101, 115]⟩)] := by decide +kernel
theorem fact_map {l : List Fact} {a : Int} {b c : ByteArray} (h : l.map (fun f => (f.el, f.lang, f.text)) = [(a, b, c)]) : l = [⟨a, b, c⟩] := by
  rcases l with _ | ⟨⟨a', b', c'⟩, _ | ⟨g, r⟩⟩
  · cases h
  · simp at h
    obtain ⟨h1, h2, h3⟩ := h
    rw [h1, h2, h3]
  · simp at h
theorem town_cho' : chooseR townC 7 bDe = [⟨1, bDe, ⟨#[65, 108, 108, 101, 115]⟩⟩] := fact_map town_cho
theorem town_take (k : Nat) : (nodesF ((aidF townC 7 bEn).take k)).length ≤ 1000000 := by
  rcases Nat.lt_or_ge k 3 with h | h
  · exact Nat.le_trans (town_len.2 k h) (by decide)
  · have e : (aidF townC 7 bEn).take k = (aidF townC 7 bEn).take 2 := by rw [List.take_of_length_le (by rw [town_len.1]; omega), List.take_of_length_le (by rw [town_len.1]; exact Nat.le_refl _)]
    rw [e]
    exact Nat.le_trans (town_len.2 2 (by decide)) (by decide)
theorem town_14 : catE townC = 0 → townC.sheets.length ≤ 14 := fun _ => by decide
open Go.RowKit

abbrev townO : Obj := .cells #[.int .i64 0, .string ⟨#[102, 111, 110, 100, 115]⟩, .string ⟨#[49, 32, 84, 111, 119, 110]⟩, .int .i64 1, .string ⟨#[109, 97, 114, 107]⟩, .string ⟨#[65]⟩, .int .i64 1, .string ⟨#[112]⟩, .string ⟨#[67, 111, 110, 116, 101, 110, 116, 115, 58, 32, 83, 101, 101, 32, 87, 97, 108, 108, 115]⟩, .int .i64 1, .string ⟨#[102, 105, 108, 101]⟩, .string ⟨#[49, 46, 49, 32, 87, 97, 108, 108, 115]⟩] 61
theorem town_row (w : World) : SlRep 3 (flat Node.enc) (w.alloc townO) (fun b => b < (w.alloc townO).heap.size) townN (.slice (some ⟨w.heap.size, 0, none⟩) 4 4) :=
  sl_at nodS (css := townN.map Node.enc) rfl (heap_newL w townO) flat_row (by simp) rfl (by decide)
set_option maxRecDepth 100000 in
set_option maxHeartbeats 8000000 in
theorem awake_c (w : World) (hS : SynOk w) : Calls Tryz.prog 6 #[] w fun e w' => e = .returned (.bool true) ∧ Below w.heap.size w w' := by
  have HT := Lib.hid (fun (W : World) => town_c W)
  go_enter Tryz.func6, Tryz.ntmps6
  go_wp2_with fail
  refine (HT.out _).mono ?_
  rintro e w1 ⟨v1, v2, v3, rfl, h1, b1⟩
  have HCM := Lib.hid (Compile_c townC 7 bEn v1 v2 v3 w1 w1.heap.size (Nat.le_refl _) h1 town_14 (hS.below hS.1 b1))
  rw [town_cmp] at HCM
  go_wp2_with fail
  refine HCM.out.mono ?_
  rintro e w2 ⟨vs, rfl, h2, b2⟩
  obtain ⟨As, cs, rfl, -⟩ := id h2
  have bA : Below w2.heap.size w2 (w2.alloc (aidO (aidU townC 7 bEn) (aidS townC 7 bEn) (.slice As (aidF townC 7 bEn).length cs))) := (Below.refl _ _).alloc (Nat.le_refl _) _
  have h2' := (h2.below secS bA).mono secS bA.size
  have HDO := Lib.hid (Document_c (aidU townC 7 bEn) (aidS townC 7 bEn) (aidF townC 7 bEn) (.slice As (aidF townC 7 bEn).length cs) (w2.alloc (aidO (aidU townC 7 bEn) (aidS townC 7 bEn) (.slice As (aidF townC 7 bEn).length cs))) _ (Nat.le_refl _) h2' town_take)
  rw [town_doc] at HDO
  have B2 := b1.trans (b2.mono b1.size)
  have B2' := B2.trans (bA.mono B2.size)
  clear h1 HCM h2 h2' b1 b2 bA
  go_wp2_with fail
  refine HDO.out.mono ?_
  rintro e w3 ⟨vd, rfl, h3, b3⟩
  have B3 := B2'.trans (b3.mono B2'.size)
  have k3 := Lib.hid (h3.toSl nodS)
  have hd3 := h3.toSl nodS
  obtain ⟨Ad, cd, rfl, -⟩ := id hd3
  clear HDO b3 B2 B2' h3
  go_wp2_with fail
  refine (HT.out _).mono ?_
  rintro e w4 ⟨u1, u2, u3, rfl, h4, b4⟩
  have B4 := B3.trans (b4.mono B3.size)
  have HNU := Lib.hid (Number_c townC 7 9 u1 u2 u3 w4 _ (Nat.le_refl _) h4 town_14)
  rw [town_numU] at HNU
  go_wp2_with fail
  refine HNU.out.mono ?_
  rintro e w5 ⟨rfl, b5⟩
  have B5 := B4.trans (b5.mono B4.size)
  have b35 := b4.trans (b5.mono b4.size)
  clear HNU h4 b4 b5 B4
  go_wp2_with fail
  refine (HT.out _).mono ?_
  rintro e w6 ⟨t1, t2, t3, rfl, h6, b6⟩
  have B6 := B5.trans (b6.mono B5.size)
  have HCH := Lib.hid (Choose_c townC 7 bDe t1 t2 t3 w6 _ (Nat.le_refl _) h6)
  rw [town_cho'] at HCH
  go_wp2_with fail
  refine HCH.out.mono ?_
  rintro e w7 ⟨vc, rfl, h7, b7⟩
  have B7 := B6.trans (b7.mono B6.size)
  have b37 := (b35.trans (b6.mono b35.size)).trans (b7.mono (b35.trans (b6.mono b35.size)).size)
  have hd7 := (hd3.below nodS b37).mono nodS b37.size
  obtain ⟨gc, cc, rfl, hg1, hg2, hg3, hg4⟩ := own_ptr h7 (n := 1) rfl (by omega)
  obtain ⟨b', off', e9, -, -, -, q2⟩ := Facts.at_ (h7.toSl fctS) (show ([⟨1, bDe, ⟨#[65, 108, 108, 101, 115]⟩⟩] : List Fact)[0]? = some _ from rfl)
  injection e9 with e9
  injection e9 with e10 e11
  subst e10 e11
  simp only [Nat.zero_mul, Nat.add_zero, Nat.zero_add] at q2
  clear HCH h6 b6 b7 B6 b35
  have bL : Below w7.heap.size w7 (w7.alloc townO) := (Below.refl _ _).alloc (Nat.le_refl _) _
  have HEQ := Lib.hid (Calls.below_of (equalN_c (docL (aidF townC 7 bEn)) townN (.slice Ad (docL (aidF townC 7 bEn)).length cd) (.slice (some ⟨w7.heap.size, 0, none⟩) 4 4) (w7.alloc townO) _ (Nat.le_refl _) ((hd7.below nodS bL).mono nodS bL.size) (town_row w7)))
  rw [town_nodes] at HEQ
  clear hd3 hd7 k3
  go_wp2_with fail
  refine HEQ.out.mono ?_
  rintro e w8 ⟨rfl, b8⟩
  have b78 := bL.trans (b8.mono bL.size)
  have B8 := B7.trans (b78.mono B7.size)
  have q2' : w8.cell? ⟨gc, 2, none⟩ = some (.string ⟨#[65, 108, 108, 101, 115]⟩) := (b78.cell (p := ⟨gc, 2, none⟩) hg2).trans q2
  clear HEQ q2 bL b8
  go_wp2_with fail
  refine (HT.out _).mono ?_
  rintro e w9 ⟨r1, r2, r3, rfl, h9, b9⟩
  have B9 := B8.trans (b9.mono B8.size)
  have HNM := Lib.hid (Name_c townC 1 bDe r1 r2 r3 w9 _ (Nat.le_refl _) h9)
  rw [town_name] at HNM
  go_wp2_with fail
  refine HNM.out.mono ?_
  rintro e wA ⟨rfl, bA⟩
  have BA := B9.trans (bA.mono B9.size)
  go_wp2_with fail
  refine (HT.out _).mono ?_
  rintro e wB ⟨s1, s2, s3, rfl, hB, bB⟩
  have BB := BA.trans (bB.mono BA.size)
  have HCI := Lib.hid (Cite_c townC 7 s1 s2 s3 wB _ (Nat.le_refl _) hB)
  rw [town_cite] at HCI
  go_wp2_with fail
  refine HCI.out.mono ?_
  rintro e wC ⟨rfl, bC⟩
  have BC := BB.trans (bC.mono BB.size)
  go_wp2_with fail
  refine (HT.out _).mono ?_
  rintro e wD ⟨t4, t5, t6, rfl, hD, bD⟩
  have BD := BC.trans (bD.mono BC.size)
  have HCK := Lib.hid (Check_c townC t4 t5 t6 wD _ (Nat.le_refl _) hD)
  rw [town_ok] at HCK
  go_wp2_with fail
  refine HCK.out.mono ?_
  rintro e wE ⟨rfl, bE⟩
  have BE := BD.trans (bE.mono BD.size)
  go_wp2
  go_ret
  exact ⟨rfl, BE⟩
end Go.Proofs.YtbmlnflacdockaaGreatDoor
