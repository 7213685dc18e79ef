/- The program: languages, labels, facts. -/
import Derived.Test.YtngodakkdhdmjaaGreatDoorLib
import Derived.Test.YtngodakkdhdmjaaGreatDoorBas
namespace Go.Proofs.YtngodakkdhdmjaaGreatDoor
open Go.RowKit

abbrev catC (v1 v2 v3 : Value) : Obj := .cells #[v1, v2, v3] 41
abbrev labC (x : Label) : Obj := .cells #[.int .i64 x.el, .string x.lang, .string x.text, .int .i64 x.idx] 127
abbrev fctC (x : Fact) : Obj := .cells #[.int .i64 x.el, .string x.lang, .string x.text] 93
structure CatRep (w : World) (B : Nat) (c : Cat) (v1 v2 v3 : Value) : Prop where
  langs : Strs w B c.langs v1
  labels : Labels w B c.labels v2
  sheets : Sheets w B c.sheets v3
theorem CatRep.below {w w' : World} {B : Nat} {c : Cat} {v1 v2 v3 : Value} (h : CatRep w B c v1 v2 v3) (hb : Below B w w') : CatRep w' B c v1 v2 v3 := ⟨h.langs.below strS hb, h.labels.below labS hb, h.sheets.below shtS hb⟩
theorem CatRep.mono {w : World} {B B' : Nat} {c : Cat} {v1 v2 v3 : Value} (h : CatRep w B c v1 v2 v3) (hB : B ≤ B') : CatRep w B' c v1 v2 v3 := ⟨h.langs.mono strS hB, h.labels.mono labS hB, h.sheets.mono shtS hB⟩
theorem langG_cons (sn : List ByteArray) (x : ByteArray) (r : List ByteArray) : langG sn (x :: r) = if letB x = false then 4 else if hasS sn x = true then 6 else langG (sn ++ [x]) r := rfl
set_option maxHeartbeats 2000000 in
theorem languages_c (c : Cat) (v1 v2 v3 : Value) (w : World) (B : Nat) (hB : B ≤ w.heap.size) (h : CatRep w B c v1 v2 v3) :
    Calls Tryz.prog 99 #[.agg #[v1, v2, v3]] w fun e w' => e = .returned (.int .i64 (langE c.langs)) ∧ Below w.heap.size w w' := by
  have b1 : Below w.heap.size w (w.alloc (catC v1 v2 v3)) := (Below.refl _ _).alloc (Nat.le_refl _) _
  have h1 := (h.below (b1.mono hB)).langs
  have hF : ∀ b, b < B → b < (w.alloc (catC v1 v2 v3)).heap.size := fun b hb => by simp; omega
  obtain ⟨A, ca, rfl, hc1, hc2, _⟩ := id h1
  generalize c.langs = xs at *
  by_cases hs : xs.length < 1
  · have HE := Lib.hid (show langE xs = 2 by unfold langE; rw [if_pos (.inl hs)])
    have hd1 : decide ((xs.length : Int) < 1) = true := by simp; omega
    have hd2 : decide ((8 : Int) < (xs.length : Int)) = false := by simp; omega
    clear hs
    go_enter Tryz.func99, Tryz.ntmps99
    go_wp2
    go_ret
    exact ⟨ret_int HE.out.symm, b1⟩
  · by_cases hs8 : 8 < xs.length
    · have HE := Lib.hid (show langE xs = 2 by unfold langE; rw [if_pos (.inr hs8)])
      have hd1 : decide ((xs.length : Int) < 1) = false := by simp; omega
      have hd2 : decide ((8 : Int) < (xs.length : Int)) = true := by simp; omega
      clear hs hs8
      go_enter Tryz.func99, Tryz.ntmps99
      go_wp2
      go_ret
      exact ⟨ret_int HE.out.symm, b1⟩
    · have HE := Lib.hid (show langE xs = langG (xs.take 0) (xs.drop 0) by unfold langE; rw [if_neg (by omega)]; simp)
      have hd1 : decide ((xs.length : Int) < 1) = false := by simp; omega
      have hd2 : decide ((8 : Int) < (xs.length : Int)) = false := by simp; omega
      clear hs
      go_enter Tryz.func99, Tryz.ntmps99
      go_wp2
      go_loop [18] (fun i => ∃ k : Nat, k ≤ xs.length ∧ i = .int .i64 k ∧ Hid (langE xs = langG (xs.take k) (xs.drop k))) (fun i => xs.length - (intOf i).toNat)
      case atStart => exact ⟨0, Nat.zero_le _, rfl, HE⟩
      case round =>
        clear HE
        obtain ⟨k, hk, rfl, HS⟩ := hrel
        by_cases hlt : k < xs.length
        · obtain ⟨x, hx⟩ := get_at xs hlt
          have HD := Lib.hid (drop_at hx)
          have HT := Lib.hid (take_at hx)
          obtain ⟨b, off, rfl, hbB, g0⟩ := Strs.at_ h1 hx
          have hbw : b < (w.alloc (catC (.slice (some ⟨b, off, none⟩) xs.length ca) v2 v3)).heap.size := hF b hbB
          have HTW := Lib.hid (two_c x)
          have HC := Lib.hid (scontains_c x (xs.take k) (.slice (some ⟨b, off, none⟩) k ca) (w.alloc (catC (.slice (some ⟨b, off, none⟩) xs.length ca) v2 v3)) (fun b => b < B) hF (h1.take_ hk))
          have hki : (k : Int) ≤ (xs.length : Int) := by omega
          clear hx
          cases hl : letB x
          · have HE := Lib.hid (show langE xs = 4 by rw [HS.out, HD.out, langG_cons, if_pos hl])
            rw [hl] at HTW
            clear hl
            go_wp2_with fail
            refine (HTW.out _).mono ?_
            rintro e w1 ⟨rfl, rfl⟩
            go_wp2
            go_ret
            exact ⟨ret_int HE.out.symm, b1⟩
          · rw [hl] at HTW
            cases hh : (xs.take k).any (fun y => decide (y = x))
            · have HE := Lib.hid (show langE xs = langG (xs.take (k + 1)) (xs.drop (k + 1)) by rw [HS.out, HD.out, langG_cons, if_neg (by simp [hl]), if_neg (by unfold hasS; simp [hh]), HT.out])
              rw [hh] at HC
              clear hl hh
              go_wp2_with fail
              refine (HTW.out _).mono ?_
              rintro e w1 ⟨rfl, rfl⟩
              go_wp2_with fail
              refine HC.out.mono ?_
              rintro e w1 ⟨rfl, rfl⟩
              go_wp2
              go_round
              case rel => exact ⟨k + 1, by omega, by go_num, HE⟩
              case measure => simp [intOf]; omega
            · have HE := Lib.hid (show langE xs = 6 by rw [HS.out, HD.out, langG_cons, if_neg (by simp [hl]), if_pos (by unfold hasS; exact hh)])
              rw [hh] at HC
              clear hl hh
              go_wp2_with fail
              refine (HTW.out _).mono ?_
              rintro e w1 ⟨rfl, rfl⟩
              go_wp2_with fail
              refine HC.out.mono ?_
              rintro e w1 ⟨rfl, rfl⟩
              go_wp2
              go_ret
              exact ⟨ret_int HE.out.symm, b1⟩
        · have HE := Lib.hid (show langE xs = 0 by rw [HS.out, List.drop_of_length_le (by omega)]; rfl)
          go_wp2
          go_ret
          exact ⟨ret_int HE.out.symm, b1⟩
def prevO {α : Type} (l : List α) (k : Nat) : Option α := if k = 0 then none else l[k - 1]?
theorem prevO_zero {α : Type} (l : List α) : prevO l 0 = none := rfl
theorem prevO_succ {α : Type} {l : List α} {k : Nat} {x : α} (h : l[k]? = some x) : prevO l (k + 1) = some x := by
  unfold prevO
  rw [if_neg (by omega), Nat.add_sub_cancel]
  exact h
theorem or_bf (a b : Int) (s t : ByteArray) : decide ((0 : Int) ≤ or2 (cmpI a b) (cmpS s t)) = !bfB a s b t := by
  unfold or2 cmpI cmpS bfB
  by_cases h1 : a < b
  · simp [h1]
  · by_cases h2 : b < a
    · have : ¬ a = b := by omega
      simp [h1, h2, this]
    · have : a = b := by omega
      subst this
      by_cases h3 : lessB s t = true
      · simp [h3]
      · by_cases h4 : s = t
        · subst h4; simp [h3]
        · simp [h3, h4]
theorem labG_cons (ls : List ByteArray) (p : Option Label) (x : Label) (r : List Label) : labG ls p (x :: r) = if labF ls p x = 0 then labG ls (some x) r else labF ls p x := rfl
theorem fctG_cons (ls : List ByteArray) (p : Option Fact) (x : Fact) (r : List Fact) : fctG ls p (x :: r) = if fctF ls p x = 0 then fctG ls (some x) r else fctF ls p x := rfl
set_option maxRecDepth 100000 in
set_option maxHeartbeats 8000000 in
theorem labels_c (c : Cat) (v1 v2 v3 : Value) (w : World) (B : Nat) (hB : B ≤ w.heap.size) (h : CatRep w B c v1 v2 v3) :
    Calls Tryz.prog 100 #[.agg #[v1, v2, v3]] w fun e w' => e = .returned (.int .i64 (labE c.langs c.labels)) ∧ Below w.heap.size w w' := by
  have b1 : Below w.heap.size w (w.alloc (catC v1 v2 v3)) := (Below.refl _ _).alloc (Nat.le_refl _) _
  have KC := Lib.hid (fun (W : World) (hW : Below (w.heap.size + 1) (w.alloc (catC v1 v2 v3)) W) => (⟨(hW.cell (p := ⟨w.heap.size, 0, none⟩) (by simp)).trans (by simp), (hW.cell (p := ⟨w.heap.size, 1, none⟩) (by simp)).trans (by simp), by have := hW.size; simp at this; omega⟩ : W.cell? ⟨w.heap.size, 0, none⟩ = some v1 ∧ W.cell? ⟨w.heap.size, 1, none⟩ = some v2 ∧ w.heap.size < W.heap.size))
  have hL := h.langs
  have hX := h.labels
  clear h
  obtain ⟨A1, ca1, rfl, -⟩ := id hL
  obtain ⟨A, ca, rfl, hc1, hc2, _⟩ := id hX
  generalize c.labels = xs at *
  generalize c.langs = ls at *
  by_cases hs : 256 < xs.length
  · have HE := Lib.hid (show labE ls xs = 8 by unfold labE; rw [if_pos hs])
    have hd1 : decide ((256 : Int) < (xs.length : Int)) = true := by simp; omega
    clear hs
    go_enter Tryz.func100, Tryz.ntmps100
    go_wp2
    go_ret
    exact ⟨ret_int HE.out.symm, b1⟩
  · have HE := Lib.hid (show labE ls xs = labG ls (prevO xs 0) (xs.drop 0) by unfold labE; rw [if_neg hs]; rfl)
    have hd1 : decide ((256 : Int) < (xs.length : Int)) = false := by simp; omega
    clear hs
    go_enter Tryz.func100, Tryz.ntmps100
    go_wp2
    go_loopw [13] (fun i wr => ∃ k : Nat, k ≤ xs.length ∧ i = .int .i64 k ∧ Hid (labE ls xs = labG ls (prevO xs k) (xs.drop k)) ∧ Below (w.heap.size + 1) (w.alloc (catC (.slice A1 ls.length ca1) (.slice A xs.length ca) v3)) wr) (fun i _ => xs.length - (intOf i).toNat)
    case atStart => exact ⟨0, Nat.zero_le _, rfl, HE, Below.refl _ _⟩
    case round =>
      clear HE
      obtain ⟨k, hk, rfl, HS, hb⟩ := hrel
      obtain ⟨z0, z1, zl⟩ := KC.out wr hb
      have Br := b1.trans (hb.mono (by omega))
      have hsr := Br.size
      by_cases hlt : k < xs.length
      · obtain ⟨x, hx⟩ := get_at xs hlt
        have HD := Lib.hid (drop_at hx)
        have HPV := Lib.hid (prevO_succ hx)
        obtain ⟨b, off, rfl, hbB, g0, g1, g2, g3⟩ := Labels.at_ (hX.below labS (Br.mono hB)) hx
        have hbw : b < wr.heap.size := by omega
        have bx := (Below.refl wr.heap.size wr).alloc (Nat.le_refl _) (labC x)
        have HC := Lib.hid (scontains_c x.lang ls (.slice A1 ls.length ca1) (wr.alloc (labC x)) (fun b => b < B) (fun b hb => by have : b < B := hb; simp; omega) (hL.below strS ((Br.trans (bx.mono hsr)).mono hB)))
        have hbX := hb.trans (bx.mono (by have := hb.size; simp at this; omega))
        have HLF := Lib.hid (show labE ls xs = if labF ls (prevO xs k) x = 0 then labG ls (some x) (xs.drop (k + 1)) else labF ls (prevO xs k) x by rw [HS.out, HD.out, labG_cons])
        clear hx
        by_cases c1 : x.el < 1 ∨ 64 < x.el ∨ x.idx < 0 ∨ 3 < x.idx
        · have HE := Lib.hid (show labE ls xs = 2 by rw [HLF.out, show labF ls (prevO xs k) x = 2 by unfold labF; rw [if_pos c1]]; rfl)
          have HC1 := Lib.hid c1
          clear c1 HC
          go_wp2_with fail
          all_goals first
            | (go_ret; exact ⟨ret_int HE.out.symm, b1.trans (hbX.mono (by omega))⟩)
            | (exfalso; have := HC1.out; omega)
        · have d1 : decide (x.el < 1) = false := by simp; omega
          have d2 : decide ((64 : Int) < x.el) = false := by simp; omega
          have d3 : decide (x.idx < 0) = false := by simp; omega
          have d4 : decide ((3 : Int) < x.idx) = false := by simp; omega
          have HF1 := Lib.hid (show labF ls (prevO xs k) x = if hasS ls x.lang = false then 7 else if x.text.size < 1 ∨ 64 < x.text.size then 4 else labT (prevO xs k) x by unfold labF; rw [if_neg c1])
          clear c1
          cases hh : ls.any (fun y => decide (y = x.lang))
          · have HE := Lib.hid (show labE ls xs = 7 by rw [HLF.out, show labF ls (prevO xs k) x = 7 by rw [HF1.out, if_pos (show hasS ls x.lang = false from hh)]]; rfl)
            rw [hh] at HC
            clear hh
            go_wp2_with fail
            refine HC.out.mono ?_
            rintro e w1 ⟨rfl, rfl⟩
            go_wp2
            go_ret
            exact ⟨ret_int HE.out.symm, b1.trans (hbX.mono (by omega))⟩
          · rw [hh] at HC
            have HF2 := Lib.hid HF1.out
            rw [if_neg (show ¬ hasS ls x.lang = false by unfold hasS; simp [hh])] at HF2
            clear hh
            by_cases c3 : x.text.size < 1 ∨ 64 < x.text.size
            · have HE := Lib.hid (show labE ls xs = 4 by rw [HLF.out, show labF ls (prevO xs k) x = 4 by rw [HF2.out, if_pos c3]]; rfl)
              have HC3 := Lib.hid c3
              clear c3
              go_wp2_with fail
              refine HC.out.mono ?_
              rintro e w1 ⟨rfl, rfl⟩
              go_wp2_with fail
              all_goals first
                | (go_ret; exact ⟨ret_int HE.out.symm, b1.trans (hbX.mono (by omega))⟩)
                | (exfalso; have := HC3.out; omega)
            · have d5 : decide ((x.text.size : Int) < 1) = false := by simp; omega
              have d6 : decide ((64 : Int) < (x.text.size : Int)) = false := by simp; omega
              have HF3 := Lib.hid HF2.out
              rw [if_neg c3] at HF3
              clear c3
              rcases Nat.eq_zero_or_pos k with hk0 | hk0
              · subst hk0
                have HE := Lib.hid (show labE ls xs = labG ls (prevO xs (0 + 1)) (xs.drop (0 + 1)) by rw [HLF.out, show labF ls (prevO xs 0) x = 0 by rw [HF3.out]; rfl, HPV.out]; rfl)
                simp only [Nat.zero_mul, Nat.add_zero] at g0 g1 g2 g3
                go_wp2_with fail
                refine HC.out.mono ?_
                rintro e w1 ⟨rfl, rfl⟩
                go_wp2
                exact ⟨⟨1, by omega, rfl, HE, hbX⟩, by simp [intOf]; omega⟩
              · obtain ⟨k', rfl⟩ : ∃ k', k = k' + 1 := ⟨k - 1, by omega⟩
                obtain ⟨q, hq⟩ := get_at xs (show k' < xs.length by omega)
                have HPQ := Lib.hid (prevO_succ hq)
                obtain ⟨b', off', hA', hbB', q0, q1, q2, q3⟩ := Labels.at_ (hX.below labS (Br.mono hB)) hq
                injection hA' with hA'
                injection hA' with e1 e2
                subst e1 e2
                have HF4 := Lib.hid (show labF ls (prevO xs (k' + 1)) x = labT (some q) x by rw [HF3.out, HPQ.out])
                have hki0 : (0 : Int) ≤ (k' : Int) := by omega
                have hki1 : (k' : Int) < (xs.length : Int) := by omega
                have hki2 : ((k' : Int) + 1 == 0) = false := by simp; omega
                have hoq := or_bf q.el x.el q.lang x.lang
                clear hq hk0
                have hbQ := (bx.alloc (by simp) (labC q))
                cases hbf : bfB q.el q.lang x.el x.lang
                · have HE := Lib.hid (show labE ls xs = 5 by rw [HLF.out, show labF ls (prevO xs (k' + 1)) x = 5 by rw [HF4.out]; unfold labT; simp [hbf]]; rfl)
                  rw [hbf] at hoq
                  clear hbf
                  go_wp2_with fail
                  refine HC.out.mono ?_
                  rintro e w1 ⟨rfl, rfl⟩
                  go_wp2
                  go_region_held3 (fun w' => w'.cell? ⟨wr.heap.size, 0, none⟩ = some (.int .i64 x.el) ∧ w'.cell? ⟨wr.heap.size, 1, none⟩ = some (.string x.lang) ∧ w'.cell? ⟨wr.heap.size + 1, 0, none⟩ = some (.int .i64 q.el) ∧ w'.cell? ⟨wr.heap.size + 1, 1, none⟩ = some (.string q.lang)) (simp [go_sem, World.cell?_alloc_past])
                    (first
                      | (go_at_call 44; refine (cmpS_c _ _ _).mono ?_; rintro e w' ⟨rfl, rfl⟩)
                      | (go_at_call 43; refine (cmpI_c _ _ _).mono ?_; rintro e w' ⟨rfl, rfl⟩)
                      | (go_at_call 42; refine Calls.mono (or_c (cmpI q.el x.el) (cmpS q.lang x.lang) _ _ (by simp [go_sem]) (by simp [go_sem])) ?_; rintro e w' ⟨rfl, rfl⟩))
                  go_wp2
                  go_ret
                  exact ⟨ret_int HE.out.symm, Br.trans (((bnd_alloc hbQ (Nat.le_refl _) _).drew).mono hsr)⟩
                · rw [hbf] at hoq
                  by_cases c5 : q.el = x.el ∧ q.idx ≠ x.idx
                  · have HE := Lib.hid (show labE ls xs = 10 by rw [HLF.out, show labF ls (prevO xs (k' + 1)) x = 10 by rw [HF4.out]; unfold labT; simp only; rw [if_neg (by simp [hbf]), if_pos c5]]; rfl)
                    have he1 : (q.el == x.el) = true := by simp [c5.1]
                    have he2 : (q.idx != x.idx) = true := by simp [c5.2]
                    clear hbf c5
                    go_wp2_with fail
                    refine HC.out.mono ?_
                    rintro e w1 ⟨rfl, rfl⟩
                    go_wp2
                    go_region_held3 (fun w' => w'.cell? ⟨wr.heap.size, 0, none⟩ = some (.int .i64 x.el) ∧ w'.cell? ⟨wr.heap.size, 1, none⟩ = some (.string x.lang) ∧ w'.cell? ⟨wr.heap.size + 1, 0, none⟩ = some (.int .i64 q.el) ∧ w'.cell? ⟨wr.heap.size + 1, 1, none⟩ = some (.string q.lang)) (simp [go_sem, World.cell?_alloc_past])
                      (first
                        | (go_at_call 44; refine (cmpS_c _ _ _).mono ?_; rintro e w' ⟨rfl, rfl⟩)
                        | (go_at_call 43; refine (cmpI_c _ _ _).mono ?_; rintro e w' ⟨rfl, rfl⟩)
                        | (go_at_call 42; refine Calls.mono (or_c (cmpI q.el x.el) (cmpS q.lang x.lang) _ _ (by simp [go_sem]) (by simp [go_sem])) ?_; rintro e w' ⟨rfl, rfl⟩))
                    go_wp2
                    go_ret
                    exact ⟨ret_int HE.out.symm, Br.trans (((bnd_alloc hbQ (Nat.le_refl _) _).drew).mono hsr)⟩
                  · have HE := Lib.hid (show labE ls xs = labG ls (prevO xs (k' + 1 + 1)) (xs.drop (k' + 1 + 1)) by rw [HLF.out, show labF ls (prevO xs (k' + 1)) x = 0 by rw [HF4.out]; unfold labT; simp only; rw [if_neg (by simp [hbf]), if_neg c5], HPV.out]; rfl)
                    have HN5 := Lib.hid c5
                    clear hbf c5
                    by_cases he : q.el = x.el
                    · have he1 : (q.el == x.el) = true := by simp [he]
                      have he2 : (q.idx != x.idx) = false := by
                        have := HN5.out
                        simp only [he, true_and, ne_eq, Classical.not_not] at this
                        simp [this]
                      clear he
                      go_wp2_with fail
                      refine HC.out.mono ?_
                      rintro e w1 ⟨rfl, rfl⟩
                      go_wp2
                      go_region_held3 (fun w' => w'.cell? ⟨wr.heap.size, 0, none⟩ = some (.int .i64 x.el) ∧ w'.cell? ⟨wr.heap.size, 1, none⟩ = some (.string x.lang) ∧ w'.cell? ⟨wr.heap.size + 1, 0, none⟩ = some (.int .i64 q.el) ∧ w'.cell? ⟨wr.heap.size + 1, 1, none⟩ = some (.string q.lang)) (simp [go_sem, World.cell?_alloc_past])
                        (first
                          | (go_at_call 44; refine (cmpS_c _ _ _).mono ?_; rintro e w' ⟨rfl, rfl⟩)
                          | (go_at_call 43; refine (cmpI_c _ _ _).mono ?_; rintro e w' ⟨rfl, rfl⟩)
                          | (go_at_call 42; refine Calls.mono (or_c (cmpI q.el x.el) (cmpS q.lang x.lang) _ _ (by simp [go_sem]) (by simp [go_sem])) ?_; rintro e w' ⟨rfl, rfl⟩))
                      go_wp2
                      go_roundw
                      case rel => exact ⟨k' + 1 + 1, by omega, by go_num, HE, hb.trans (((bnd_alloc hbQ (Nat.le_refl _) _).drew).mono (by omega))⟩
                      case measure => simp [intOf]; omega
                    · have he1 : (q.el == x.el) = false := by simpa using he
                      clear he
                      go_wp2_with fail
                      refine HC.out.mono ?_
                      rintro e w1 ⟨rfl, rfl⟩
                      go_wp2
                      go_region_held3 (fun w' => w'.cell? ⟨wr.heap.size, 0, none⟩ = some (.int .i64 x.el) ∧ w'.cell? ⟨wr.heap.size, 1, none⟩ = some (.string x.lang) ∧ w'.cell? ⟨wr.heap.size + 1, 0, none⟩ = some (.int .i64 q.el) ∧ w'.cell? ⟨wr.heap.size + 1, 1, none⟩ = some (.string q.lang)) (simp [go_sem, World.cell?_alloc_past])
                        (first
                          | (go_at_call 44; refine (cmpS_c _ _ _).mono ?_; rintro e w' ⟨rfl, rfl⟩)
                          | (go_at_call 43; refine (cmpI_c _ _ _).mono ?_; rintro e w' ⟨rfl, rfl⟩)
                          | (go_at_call 42; refine Calls.mono (or_c (cmpI q.el x.el) (cmpS q.lang x.lang) _ _ (by simp [go_sem]) (by simp [go_sem])) ?_; rintro e w' ⟨rfl, rfl⟩))
                      go_wp2
                      go_roundw
                      case rel => exact ⟨k' + 1 + 1, by omega, by go_num, HE, hb.trans (((bnd_alloc hbQ (Nat.le_refl _) _).drew).mono (by omega))⟩
                      case measure => simp [intOf]; omega
      · have HE := Lib.hid (show labE ls xs = 0 by rw [HS.out, List.drop_of_length_le (by omega)]; cases prevO xs k <;> rfl)
        go_wp2
        go_ret
        exact ⟨ret_int HE.out.symm, Br⟩
end Go.Proofs.YtngodakkdhdmjaaGreatDoor
