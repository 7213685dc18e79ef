/- The program: sheets, Check. -/
import Derived.Test.YtngodakkdhdmjaaGreatDoorPrB
namespace Go.Proofs.YtngodakkdhdmjaaGreatDoor
open Go.RowKit

abbrev shtC (x : Sheet) (v : Value) : Obj := .cells #[.int .i64 x.unit, .int .i64 x.parent, .int .i64 x.level, .string x.mark, .string x.title, v] 59
theorem shtG_cons (ls : List ByteArray) (bf : List Sheet) (p : List Int) (s : Sheet) (r : List Sheet) : shtG ls bf p (s :: r) = if shtF ls bf p s = 0 then shtG ls (bf ++ [s]) (nextP p s) r else shtF ls bf p s := rfl
def shtT (ls : List ByteArray) (p : List Int) (s : Sheet) : Int :=
  if s.parent ≠ 0 ∧ untIx p s.parent < 0 then 7 else if 12 ≤ keepN p s.parent then 15 else fctE ls s.facts
set_option maxRecDepth 100000 in
set_option maxHeartbeats 8000000 in
theorem sheets_c (c : Cat) (v1 v2 v3 : Value) (w : World) (B : Nat) (hB : B ≤ w.heap.size) (h : CatRep w B c v1 v2 v3) :
    Calls Tryz.prog 101 #[.agg #[v1, v2, v3]] w fun e w' => e = .returned (.int .i64 (shtE c.langs c.sheets)) ∧ Below w.heap.size w w' := by
  have b1 : Below w.heap.size w (w.alloc (catC v1 v2 v3)) := (Below.refl _ _).alloc (Nat.le_refl _) _
  have KC := Lib.hid (fun (W : World) (hW : Below (w.heap.size + 1) (w.alloc (catC v1 v2 v3)) W) => (⟨(hW.cell (p := ⟨w.heap.size, 0, none⟩) (by simp)).trans (by simp), (hW.cell (p := ⟨w.heap.size, 1, none⟩) (by simp)).trans (by simp), (hW.cell (p := ⟨w.heap.size, 2, none⟩) (by simp)).trans (by simp), by have := hW.size; simp at this; omega⟩ : W.cell? ⟨w.heap.size, 0, none⟩ = some v1 ∧ W.cell? ⟨w.heap.size, 1, none⟩ = some v2 ∧ W.cell? ⟨w.heap.size, 2, none⟩ = some v3 ∧ w.heap.size < W.heap.size))
  have hL := h.langs
  have hX := h.sheets
  clear h
  have HFC := Lib.hid (fun (fs : List Fact) (vf : Value) (W : World) (hW : Below w.heap.size w W) (hf : Facts W B fs vf) => facts_c c fs v1 v2 v3 vf W B (Nat.le_trans hB hW.size) (hL.below strS (hW.mono hB)) hf)
  obtain ⟨A, ca, rfl, hc1, hc2, _⟩ := id hX
  obtain ⟨ls, lb, xs⟩ := c
  simp only at hX hc1 HFC KC b1 ⊢
  clear hL
  by_cases hs : 256 < xs.length
  · have HE := Lib.hid (show shtE ls xs = 8 by unfold shtE; rw [if_pos hs])
    have hd1 : decide ((256 : Int) < (xs.length : Int)) = true := by simp; omega
    clear hs
    go_enter Tryz.func101, Tryz.ntmps101
    go_wp2
    go_ret
    exact ⟨ret_int HE.out.symm, b1⟩
  · have HE := Lib.hid (show shtE ls xs = shtG ls (xs.take 0) [] (xs.drop 0) by unfold shtE; rw [if_neg hs]; simp)
    have hd1 : decide ((256 : Int) < (xs.length : Int)) = false := by simp; omega
    clear hs
    go_enter Tryz.func101, Tryz.ntmps101
    go_wp2
    go_loopw [3, 15] (fun v3' i wr => ∃ (k : Nat) (p : List Int), k ≤ xs.length ∧ i = .int .i64 k ∧ p.length ≤ 12 ∧ Hid (shtE ls xs = shtG ls (xs.take k) p (xs.drop k)) ∧ OwnRep 1 (flat intEnc) 3 (w.heap.size + 1) wr p v3' ∧ Below (w.heap.size + 1) (w.alloc (catC v1 v2 (.slice A xs.length ca))) wr) (fun _ i _ => xs.length - (intOf i).toNat)
    case atStart => exact ⟨0, [], Nat.zero_le _, rfl, by simp, HE, OwnRep.nil_, Below.refl _ _⟩
    case round =>
      clear HE
      obtain ⟨k, p, hk, rfl, hp12, HS, hown, hb⟩ := hrel
      obtain ⟨z0, z1, z2, zl⟩ := KC.out wr hb
      have Br := b1.trans (hb.mono (by omega))
      have hsr := Br.size
      by_cases hlt : k < xs.length
      · obtain ⟨s, hx⟩ := get_at xs hlt
        have HD := Lib.hid (drop_at hx)
        have HT := Lib.hid (take_at hx)
        obtain ⟨b, off, vf, rfl, hbB, g0, g1, g2, g3, g4, g5, hvf⟩ := Sheets.at_ (hX.below shtS (Br.mono hB)) hx
        obtain ⟨Af, cf, rfl, -⟩ := id hvf
        have hbw : b < wr.heap.size := by omega
        have hki1 : (k : Int) ≤ (xs.length : Int) := by omega
        have hki2 : (k : Int) ≤ (ca : Int) := by omega
        have hki3 : (0 : Int) ≤ (k : Int) := by omega
        have bx := (Below.refl wr.heap.size wr).alloc (Nat.le_refl _) (shtC s (.slice Af s.facts.length cf))
        have hbX := hb.trans (bx.mono (by omega))
        have HLF := Lib.hid (show shtE ls xs = if shtF ls (xs.take k) p s = 0 then shtG ls (xs.take (k + 1)) (nextP p s) (xs.drop (k + 1)) else shtF ls (xs.take k) p s by rw [HS.out, HD.out, shtG_cons, HT.out])
        clear hx
        by_cases c1 : s.unit < 1 ∨ 1073741824 < s.unit ∨ s.level < 1 ∨ 4 < s.level
        · have HE := Lib.hid (show shtE ls xs = 2 by rw [HLF.out, show shtF ls (xs.take k) p s = 2 by unfold shtF; rw [if_pos c1]]; rfl)
          have HC1 := Lib.hid c1
          clear c1
          go_wp2_with fail
          all_goals first
            | (go_ret; exact ⟨ret_int HE.out.symm, b1.trans (hbX.mono (by omega))⟩)
            | (exfalso; have := HC1.out; omega)
        · have d1 : decide (s.unit < 1) = false := by simp; omega
          have d2 : decide ((1073741824 : Int) < s.unit) = false := by simp; omega
          have d3 : decide (s.level < 1) = false := by simp; omega
          have d4 : decide ((4 : Int) < s.level) = false := by simp; omega
          by_cases c2 : 64 < s.mark.size ∨ s.title.size < 1 ∨ 64 < s.title.size
          · have HE := Lib.hid (show shtE ls xs = 4 by rw [HLF.out, show shtF ls (xs.take k) p s = 4 by unfold shtF; rw [if_neg c1, if_pos c2]]; rfl)
            have HC1 := Lib.hid c2
            clear c1 c2
            go_wp2_with fail
            all_goals first
              | (go_ret; exact ⟨ret_int HE.out.symm, b1.trans (hbX.mono (by omega))⟩)
              | (exfalso; have := HC1.out; omega)
          · have d5 : decide ((64 : Int) < (s.mark.size : Int)) = false := by simp; omega
            have d6 : decide ((s.title.size : Int) < 1) = false := by simp; omega
            have d7 : decide ((64 : Int) < (s.title.size : Int)) = false := by simp; omega
            have HF2 := Lib.hid (show shtF ls (xs.take k) p s = if 0 ≤ shtIx (xs.take k) s.unit then 6 else shtT ls p s by unfold shtF shtT; rw [if_neg c1, if_neg c2])
            clear c1 c2
            have HFI := Lib.hid (fun (W : World) (hW : Below wr.heap.size wr W) => find_c (xs.take k) s.unit (.slice (some ⟨b, off, none⟩) k ca) W B (by have := hW.size; omega) ((hX.below shtS ((Br.trans (hW.mono hsr)).mono hB)).take_ hk))
            have KEEP := Lib.hid (fun (W : World) (hW : Below (wr.heap.size + 1) (wr.alloc (shtC s (.slice Af s.facts.length cf))) W) => (⟨((bx.trans (hW.mono (by omega))).cell (p := ⟨w.heap.size, 2, none⟩) zl).trans z2, (hW.cell (p := ⟨wr.heap.size, 0, none⟩) (by simp)).trans (by simp)⟩ : W.cell? ⟨w.heap.size, 2, none⟩ = some (.slice (some ⟨b, off, none⟩) xs.length ca) ∧ W.cell? ⟨wr.heap.size, 0, none⟩ = some (.int .i64 s.unit)))
            have KS := Lib.hid (fun (W : World) (hW : Below (wr.heap.size + 1) (wr.alloc (shtC s (.slice Af s.facts.length cf))) W) => (⟨(hW.cell (p := ⟨wr.heap.size, 0, none⟩) (by simp)).trans (by simp), (hW.cell (p := ⟨wr.heap.size, 1, none⟩) (by simp)).trans (by simp), (hW.cell (p := ⟨wr.heap.size, 5, none⟩) (by simp)).trans (by simp), by have := hW.size; simp at this; omega⟩ : W.cell? ⟨wr.heap.size, 0, none⟩ = some (.int .i64 s.unit) ∧ W.cell? ⟨wr.heap.size, 1, none⟩ = some (.int .i64 s.parent) ∧ W.cell? ⟨wr.heap.size, 5, none⟩ = some (.slice Af s.facts.length cf) ∧ wr.heap.size < W.heap.size))
            have hbY : Below (wr.heap.size + 1) (wr.alloc (shtC s (.slice Af s.facts.length cf))) (wr.alloc (shtC s (.slice Af s.facts.length cf))).drew := (Below.refl _ _).drew
            by_cases c3 : 0 ≤ shtIx (xs.take k) s.unit
            · have HE := Lib.hid (show shtE ls xs = 6 by rw [HLF.out, show shtF ls (xs.take k) p s = 6 by rw [HF2.out, if_pos c3]]; rfl)
              have dc : decide ((0 : Int) ≤ shtIx (xs.take k) s.unit) = true := by simpa using c3
              clear c3
              go_wp2
              go_region_held3 (fun W => W.cell? ⟨w.heap.size, 2, none⟩ = some (.slice (some ⟨b, off, none⟩) xs.length ca) ∧ W.cell? ⟨wr.heap.size, 0, none⟩ = some (.int .i64 s.unit)) (with_reducible exact KEEP.out _ hbY) (first
                | (go_at_call 110; (with_reducible refine (HFI.out _ (bx.trans (hbY.mono (Nat.le_succ _)))).mono ?_); rintro e wF ⟨rfl, hb'⟩; have hbY := bnd_call hbY (by simp) hb'))
              go_wp2
              go_ret
              exact ⟨ret_int HE.out.symm, Br.trans ((bx.trans (hbY.mono (Nat.le_succ _))).mono hsr)⟩
            · have dc : decide ((0 : Int) ≤ shtIx (xs.take k) s.unit) = false := by simpa using c3
              have HF3 := Lib.hid (show shtF ls (xs.take k) p s = shtT ls p s by rw [HF2.out, if_neg c3])
              clear c3
              go_wp2
              go_region_held3 (fun W => W.cell? ⟨w.heap.size, 2, none⟩ = some (.slice (some ⟨b, off, none⟩) xs.length ca) ∧ W.cell? ⟨wr.heap.size, 0, none⟩ = some (.int .i64 s.unit)) (with_reducible exact KEEP.out _ hbY) (first
                | (go_at_call 110; (with_reducible refine (HFI.out _ (bx.trans (hbY.mono (Nat.le_succ _)))).mono ?_); rintro e wF ⟨rfl, hb'⟩; have hbY := bnd_call hbY (by simp) hb'))
              obtain ⟨y0, y1, y5, yl⟩ := KS.out _ hbY
              have hsY := hbY.size
              simp only [World.size_alloc] at hsY
              have bF := bx.trans (hbY.mono (Nat.le_succ _))
              have hbF := hb.trans (bF.mono (by omega))
              have BF := b1.trans (hbF.mono (by omega))
              have hownF := hown.below intS bF
              have HOL := Lib.hid hown.own_lt
              obtain ⟨zF0, zF1, zF2, zFl⟩ := KC.out _ hbF
              clear z0 z1 z2 zl hown bx bF
              have HSL := Lib.hid (hownF.toSl intS)
              have HII := Lib.hid (fun (W : World) (hW : Below wF.heap.size wF W) => iindex_c s.parent p _ W (fun b => b < wF.heap.size) (fun b hb => Nat.lt_of_lt_of_le hb hW.size) (HSL.out.below intS hW))
              by_cases hp0 : s.parent = 0
              · have hpe : (s.parent != 0) = false := by simp [hp0]
                have HKN := Lib.hid (show keepN p s.parent = 0 by unfold keepN; rw [if_pos hp0])
                have HF4 := Lib.hid (show shtF ls (xs.take k) p s = fctE ls s.facts by rw [HF3.out]; unfold shtT; rw [if_neg (by simp [hp0]), HKN.out, if_neg (by omega)])
                clear hp0
                rcases hownF.cases_ with ⟨rfl, rfl⟩ | ⟨g, cp, rfl, hgb, hgl, hcp1, hcp2⟩
                · have bC : Below wF.heap.size wF (wF.alloc (.cells #[.int .i64 s.unit] 3)).drew := ((Below.refl _ _).alloc (Nat.le_refl _) _).drew
                  have tO : OwnRep 1 (flat intEnc) 3 (w.heap.size + 1) (wF.alloc (.cells #[.int .i64 s.unit] 3)).drew ([].take 0) (.slice none 0 0) := OwnRep.nil_
                  have sO : SlRep 1 (flat intEnc) (wF.alloc (.cells #[.int .i64 s.unit] 3)).drew (fun b => False ∨ b = wF.heap.size) [s.unit] (.slice (some ⟨wF.heap.size, 0, none⟩) 1 1) := (SlRep.one_new intS (w := wF) (F := fun _ => False) (x := s.unit) (cs := intEnc s.unit) (t := 3) rfl rfl (fun b hb => hb.elim)).frame intS (fun _ _ => rfl)
                  have hlo : ∀ b, (.slice none 0 0 : Value).ownBlock = some b → w.heap.size + 1 ≤ b ∧ b < wr.heap.size := fun b hb => by cases hb
                  have sF : ∀ b, (False ∨ b = wF.heap.size) → b < (wF.alloc (.cells #[.int .i64 s.unit] 3)).drew.heap.size ∧ (.slice none 0 0 : Value).ownBlock ≠ some b := fun b hb => by
                    rcases hb with hb | rfl
                    · exact hb.elim
                    · exact ⟨by simp, fun e => by have := (hlo _ e).2; omega⟩
                  have kN : (([] : List Int).take 0).length + [s.unit].length ≤ 4294967296 := by simp
                  have kB : w.heap.size + 1 ≤ (wF.alloc (.cells #[.int .i64 s.unit] 3)).drew.heap.size := by simp; omega
                  have z9 := KS.out _ hbY.drew
                  have z8 := KS.out _ (bnd_alloc hbY (by simp) (.cells #[.int .i64 s.unit] 3)).drew
                  have kG : ∀ (v6 : Value) (w6 : World), (wF.alloc (.cells #[.int .i64 s.unit] 3)).drew.grownBy w6 (.slice none 0 0 : Value).ownBlock → w6.cell? ⟨wr.heap.size, 0, none⟩ = some (.int .i64 s.unit) ∧ w6.cell? ⟨wr.heap.size, 5, none⟩ = some (.slice Af s.facts.length cf) ∧ Below (w.heap.size + 1) (w.alloc (catC v1 v2 (.slice (some ⟨b, off, none⟩) xs.length ca))) w6 ∧ wr.heap.size < w6.heap.size := by
                    intro v6 w6 hg
                    have hsz := hg.size
                    simp only [World.size_alloc, World.size_drew] at hsz
                    have hne : some wr.heap.size ≠ (.slice none 0 0 : Value).ownBlock := fun e => by have := (hlo _ e.symm).2; omega
                    exact ⟨(cell_grown hg (by simp; omega) hne).trans z8.1, (cell_grown hg (by simp; omega) hne).trans z8.2.2.1, (bnd_alloc hbF (by simp) _).drew.grown hg kB (fun k hk => (hlo k hk).1), by omega⟩
                  go_wp2
                  go_region_held3 (fun W => W.cell? ⟨wr.heap.size, 0, none⟩ = some (.int .i64 s.unit)) (first | with_reducible exact hk6.1 | with_reducible exact z9.1 | with_reducible exact z8.1) (first
                    | (refine step_append_rep rfl intS intE_ _ (.tmp 76) (.tmp 79) rfl rfl tO rfl (ys := [s.unit]) sO sF kN (by decide) kB ?_; intro v6 w6 hown6 hg6 hat6; have hk6 := kG v6 w6 hg6))
                  obtain ⟨-, x5, x6, x7⟩ := hk6
                  have B6 := b1.trans (x6.mono (by omega))
                  obtain ⟨k0, k1, k2, kl⟩ := KC.out _ x6
                  have HFX := Lib.hid (HFC.out s.facts (.slice Af s.facts.length cf) w6 B6 (hvf.below fctS (by
                    exact below_turn (Br.mono hB) (B6.mono hB) (by omega))))
                  clear zF0 zF1 zF2 zFl z8 z9 kG hlo tO sO
                  by_cases hfe : fctE ls s.facts = 0
                  · rw [hfe] at HFX
                    have HEn := Lib.hid (show shtE ls xs = shtG ls (xs.take (k + 1)) (([] : List Int).take 0 ++ [s.unit]) (xs.drop (k + 1)) by
                      rw [HLF.out, if_pos (by rw [HF4.out]; exact hfe)]; unfold nextP; rw [HKN.out])
                    clear hfe
                    go_wp2_with fail
                    refine HFX.out.mono ?_
                    rintro e w7 ⟨rfl, hb7⟩
                    go_wp2
                    go_roundw
                    case rel => exact ⟨k + 1, _, by omega, by go_num, by simp, HEn, hown6.below intS hb7, x6.trans (hb7.mono (by omega))⟩
                    case measure => simp [intOf]; omega
                  · have HE := Lib.hid (show shtE ls xs = fctE ls s.facts by rw [HLF.out, if_neg (by rw [HF4.out]; exact hfe), HF4.out])
                    have hfn : (fctE ls s.facts != 0) = true := by simp [hfe]
                    clear hfe
                    go_wp2_with fail
                    refine HFX.out.mono ?_
                    rintro e w7 ⟨rfl, hb7⟩
                    go_wp2
                    go_ret
                    exact ⟨ret_int HE.out.symm, B6.trans (hb7.mono B6.size)⟩
                · have hcp0 : (0 : Int) ≤ (cp : Int) := by omega
                  have bC : Below wF.heap.size wF (wF.alloc (.cells #[.int .i64 s.unit] 3)).drew := ((Below.refl _ _).alloc (Nat.le_refl _) _).drew
                  have tO : OwnRep 1 (flat intEnc) 3 (w.heap.size + 1) (wF.alloc (.cells #[.int .i64 s.unit] 3)).drew (p.take 0) (.slice (some ⟨g, 0, none⟩) 0 cp) := (hownF.take_ intS (Nat.zero_le _)).below intS bC
                  have sO : SlRep 1 (flat intEnc) (wF.alloc (.cells #[.int .i64 s.unit] 3)).drew (fun b => False ∨ b = wF.heap.size) [s.unit] (.slice (some ⟨wF.heap.size, 0, none⟩) 1 1) := (SlRep.one_new intS (w := wF) (F := fun _ => False) (x := s.unit) (cs := intEnc s.unit) (t := 3) rfl rfl (fun b hb => hb.elim)).frame intS (fun _ _ => rfl)
                  have hlo : ∀ b, (.slice (some ⟨g, 0, none⟩) 0 cp : Value).ownBlock = some b → w.heap.size + 1 ≤ b ∧ b < wr.heap.size := fun b hb => HOL.out b hb
                  have sF : ∀ b, (False ∨ b = wF.heap.size) → b < (wF.alloc (.cells #[.int .i64 s.unit] 3)).drew.heap.size ∧ (.slice (some ⟨g, 0, none⟩) 0 cp : Value).ownBlock ≠ some b := fun b hb => by
                    rcases hb with hb | rfl
                    · exact hb.elim
                    · exact ⟨by simp, fun e => by have := (hlo _ e).2; omega⟩
                  have kN : (p.take 0).length + [s.unit].length ≤ 4294967296 := by simp
                  have kB : w.heap.size + 1 ≤ (wF.alloc (.cells #[.int .i64 s.unit] 3)).drew.heap.size := by simp; omega
                  have z9 := KS.out _ hbY.drew
                  have z8 := KS.out _ (bnd_alloc hbY (by simp) (.cells #[.int .i64 s.unit] 3)).drew
                  have kG : ∀ (v6 : Value) (w6 : World), (wF.alloc (.cells #[.int .i64 s.unit] 3)).drew.grownBy w6 (.slice (some ⟨g, 0, none⟩) 0 cp : Value).ownBlock → w6.cell? ⟨wr.heap.size, 0, none⟩ = some (.int .i64 s.unit) ∧ w6.cell? ⟨wr.heap.size, 5, none⟩ = some (.slice Af s.facts.length cf) ∧ Below (w.heap.size + 1) (w.alloc (catC v1 v2 (.slice (some ⟨b, off, none⟩) xs.length ca))) w6 ∧ wr.heap.size < w6.heap.size := by
                    intro v6 w6 hg
                    have hsz := hg.size
                    simp only [World.size_alloc, World.size_drew] at hsz
                    have hne : some wr.heap.size ≠ (.slice (some ⟨g, 0, none⟩) 0 cp : Value).ownBlock := fun e => by have := (hlo _ e.symm).2; omega
                    exact ⟨(cell_grown hg (by simp; omega) hne).trans z8.1, (cell_grown hg (by simp; omega) hne).trans z8.2.2.1, (bnd_alloc hbF (by simp) _).drew.grown hg kB (fun k hk => (hlo k hk).1), by omega⟩
                  go_wp2
                  go_region_held3 (fun W => W.cell? ⟨wr.heap.size, 0, none⟩ = some (.int .i64 s.unit)) (first | with_reducible exact hk6.1 | with_reducible exact z9.1 | with_reducible exact z8.1) (first
                    | (refine step_append_rep rfl intS intE_ _ (.tmp 76) (.tmp 79) rfl rfl tO rfl (ys := [s.unit]) sO sF kN (by decide) kB ?_; intro v6 w6 hown6 hg6 hat6; have hk6 := kG v6 w6 hg6))
                  obtain ⟨-, x5, x6, x7⟩ := hk6
                  have B6 := b1.trans (x6.mono (by omega))
                  obtain ⟨k0, k1, k2, kl⟩ := KC.out _ x6
                  have HFX := Lib.hid (HFC.out s.facts (.slice Af s.facts.length cf) w6 B6 (hvf.below fctS (by
                    exact below_turn (Br.mono hB) (B6.mono hB) (by omega))))
                  clear zF0 zF1 zF2 zFl z8 z9 kG hlo tO sO
                  by_cases hfe : fctE ls s.facts = 0
                  · rw [hfe] at HFX
                    have HEn := Lib.hid (show shtE ls xs = shtG ls (xs.take (k + 1)) (p.take 0 ++ [s.unit]) (xs.drop (k + 1)) by
                      rw [HLF.out, if_pos (by rw [HF4.out]; exact hfe)]; unfold nextP; rw [HKN.out])
                    clear hfe
                    go_wp2_with fail
                    refine HFX.out.mono ?_
                    rintro e w7 ⟨rfl, hb7⟩
                    go_wp2
                    go_roundw
                    case rel => exact ⟨k + 1, _, by omega, by go_num, by simp, HEn, hown6.below intS hb7, x6.trans (hb7.mono (by omega))⟩
                    case measure => simp [intOf]; omega
                  · have HE := Lib.hid (show shtE ls xs = fctE ls s.facts by rw [HLF.out, if_neg (by rw [HF4.out]; exact hfe), HF4.out])
                    have hfn : (fctE ls s.facts != 0) = true := by simp [hfe]
                    clear hfe
                    go_wp2_with fail
                    refine HFX.out.mono ?_
                    rintro e w7 ⟨rfl, hb7⟩
                    go_wp2
                    go_ret
                    exact ⟨ret_int HE.out.symm, B6.trans (hb7.mono B6.size)⟩
              · have hpe : (s.parent != 0) = true := by simp [hp0]
                rcases untIx_cases p s.parent with ⟨e1, e2⟩ | ⟨j, e1, e2⟩
                · have HE := Lib.hid (show shtE ls xs = 7 by rw [HLF.out, show shtF ls (xs.take k) p s = 7 by rw [HF3.out]; unfold shtT; rw [if_pos ⟨hp0, by omega⟩]]; rfl)
                  rw [show idxF (fun x => decide (x = s.parent)) p = -1 from e1] at HII
                  clear e1 e2 hp0
                  go_wp2_with fail
                  refine (HII.out _ (Below.refl _ _)).mono ?_
                  rintro e w1 ⟨rfl, rfl⟩
                  go_wp2
                  go_ret
                  exact ⟨ret_int HE.out.symm, BF⟩
                · have hjl : j < p.length := lt_of_at e2
                  have HKN := Lib.hid (keepN_at hp0 e1)
                  rw [show idxF (fun x => decide (x = s.parent)) p = (j : Int) from e1] at HII
                  by_cases h12 : 12 ≤ j + 1
                  · have HE := Lib.hid (show shtE ls xs = 15 by rw [HLF.out, show shtF ls (xs.take k) p s = 15 by rw [HF3.out]; unfold shtT; rw [if_neg (fun c => by omega), HKN.out, if_pos h12]]; rfl)
                    have hge : decide ((12 : Int) ≤ (j : Int) + 1) = true := by simp; omega
                    have hz : ((j : Int) + 1 == 0) = false := by simp; omega
                    clear e1 e2 hp0 h12
                    go_wp2_with fail
                    refine (HII.out _ (Below.refl _ _)).mono ?_
                    rintro e w1 ⟨rfl, rfl⟩
                    go_wp2
                    go_ret
                    exact ⟨ret_int HE.out.symm, BF⟩
                  · have HF4 := Lib.hid (show shtF ls (xs.take k) p s = fctE ls s.facts by rw [HF3.out]; unfold shtT; rw [if_neg (fun c => by omega), HKN.out, if_neg h12])
                    have hge : decide ((12 : Int) ≤ (j : Int) + 1) = false := by simp; omega
                    have hz : ((j : Int) + 1 == 0) = false := by simp; omega
                    have hj12 : j + 1 < 12 := by omega
                    clear e1 e2 hp0 h12
                    obtain ⟨g, cp, rfl, hgb, hgl, hcp1, hcp2⟩ := own_ptr hownF rfl (by omega)
                    have hcp0 : (j : Int) + 1 ≤ (cp : Int) := by omega
                    have hj0 : (0 : Int) ≤ (j : Int) + 1 := by omega
                    have hjt : ((j : Int) + 1).toNat = j + 1 := by omega
                    go_wp2_with fail
                    refine (HII.out _ (Below.refl _ _)).mono ?_
                    rintro e w1 ⟨rfl, rfl⟩
                    have bC : Below wF.heap.size wF (wF.alloc (.cells #[.int .i64 s.unit] 3)).drew := ((Below.refl _ _).alloc (Nat.le_refl _) _).drew
                    have tO : OwnRep 1 (flat intEnc) 3 (w.heap.size + 1) (wF.alloc (.cells #[.int .i64 s.unit] 3)).drew (p.take (j + 1)) (.slice (some ⟨g, 0, none⟩) (j + 1) cp) := (hownF.take_ intS (by omega)).below intS bC
                    have sO : SlRep 1 (flat intEnc) (wF.alloc (.cells #[.int .i64 s.unit] 3)).drew (fun b => False ∨ b = wF.heap.size) [s.unit] (.slice (some ⟨wF.heap.size, 0, none⟩) 1 1) := (SlRep.one_new intS (w := wF) (F := fun _ => False) (x := s.unit) (cs := intEnc s.unit) (t := 3) rfl rfl (fun b hb => hb.elim)).frame intS (fun _ _ => rfl)
                    have hlo : ∀ b, (.slice (some ⟨g, 0, none⟩) (j + 1) cp : Value).ownBlock = some b → w.heap.size + 1 ≤ b ∧ b < wr.heap.size := fun b hb => HOL.out b hb
                    have sF : ∀ b, (False ∨ b = wF.heap.size) → b < (wF.alloc (.cells #[.int .i64 s.unit] 3)).drew.heap.size ∧ (.slice (some ⟨g, 0, none⟩) (j + 1) cp : Value).ownBlock ≠ some b := fun b hb => by
                      rcases hb with hb | rfl
                      · exact hb.elim
                      · exact ⟨by simp, fun e => by have := (hlo _ e).2; omega⟩
                    have kN : (p.take (j + 1)).length + [s.unit].length ≤ 4294967296 := by simp; omega
                    have kB : w.heap.size + 1 ≤ (wF.alloc (.cells #[.int .i64 s.unit] 3)).drew.heap.size := by simp; omega
                    have z9 := KS.out _ hbY.drew
                    have z8 := KS.out _ (bnd_alloc hbY (by simp) (.cells #[.int .i64 s.unit] 3)).drew
                    have kG : ∀ (v6 : Value) (w6 : World), (wF.alloc (.cells #[.int .i64 s.unit] 3)).drew.grownBy w6 (.slice (some ⟨g, 0, none⟩) (j + 1) cp : Value).ownBlock → w6.cell? ⟨wr.heap.size, 0, none⟩ = some (.int .i64 s.unit) ∧ w6.cell? ⟨wr.heap.size, 5, none⟩ = some (.slice Af s.facts.length cf) ∧ Below (w.heap.size + 1) (w.alloc (catC v1 v2 (.slice (some ⟨b, off, none⟩) xs.length ca))) w6 ∧ wr.heap.size < w6.heap.size := by
                      intro v6 w6 hg
                      have hsz := hg.size
                      simp only [World.size_alloc, World.size_drew] at hsz
                      have hne : some wr.heap.size ≠ (.slice (some ⟨g, 0, none⟩) (j + 1) cp : Value).ownBlock := fun e => by have := (hlo _ e.symm).2; omega
                      exact ⟨(cell_grown hg (by simp; omega) hne).trans z8.1, (cell_grown hg (by simp; omega) hne).trans z8.2.2.1, (bnd_alloc hbF (by simp) _).drew.grown hg kB (fun k hk => (hlo k hk).1), by omega⟩
                    go_wp2
                    go_region_held3 (fun W => W.cell? ⟨wr.heap.size, 0, none⟩ = some (.int .i64 s.unit)) (first | with_reducible exact hk6.1 | with_reducible exact z9.1 | with_reducible exact z8.1) (first
                      | (refine step_append_rep rfl intS intE_ _ (.tmp 76) (.tmp 79) rfl rfl tO rfl (ys := [s.unit]) sO sF kN (by decide) kB ?_; intro v6 w6 hown6 hg6 hat6; have hk6 := kG v6 w6 hg6))
                    obtain ⟨-, x5, x6, x7⟩ := hk6
                    have B6 := b1.trans (x6.mono (by omega))
                    obtain ⟨k0, k1, k2, kl⟩ := KC.out _ x6
                    have HFX := Lib.hid (HFC.out s.facts (.slice Af s.facts.length cf) w6 B6 (hvf.below fctS (by
                      exact below_turn (Br.mono hB) (B6.mono hB) (by omega))))
                    clear zF0 zF1 zF2 zFl z8 z9 kG hlo tO sO
                    by_cases hfe : fctE ls s.facts = 0
                    · rw [hfe] at HFX
                      have HEn := Lib.hid (show shtE ls xs = shtG ls (xs.take (k + 1)) (p.take (j + 1) ++ [s.unit]) (xs.drop (k + 1)) by
                        rw [HLF.out, if_pos (by rw [HF4.out]; exact hfe)]; unfold nextP; rw [HKN.out])
                      clear hfe
                      go_wp2_with fail
                      refine HFX.out.mono ?_
                      rintro e w7 ⟨rfl, hb7⟩
                      go_wp2
                      go_roundw
                      case rel => exact ⟨k + 1, _, by omega, by go_num, by simp; omega, HEn, hown6.below intS hb7, x6.trans (hb7.mono (by omega))⟩
                      case measure => simp [intOf]; omega
                    · have HE := Lib.hid (show shtE ls xs = fctE ls s.facts by rw [HLF.out, if_neg (by rw [HF4.out]; exact hfe), HF4.out])
                      have hfn : (fctE ls s.facts != 0) = true := by simp [hfe]
                      clear hfe
                      go_wp2_with fail
                      refine HFX.out.mono ?_
                      rintro e w7 ⟨rfl, hb7⟩
                      go_wp2
                      go_ret
                      exact ⟨ret_int HE.out.symm, B6.trans (hb7.mono B6.size)⟩
      · have HE := Lib.hid (show shtE ls xs = 0 by rw [HS.out, List.drop_of_length_le (by omega)]; rfl)
        go_wp2
        go_ret
        exact ⟨ret_int HE.out.symm, Br⟩
end Go.Proofs.YtngodakkdhdmjaaGreatDoor
