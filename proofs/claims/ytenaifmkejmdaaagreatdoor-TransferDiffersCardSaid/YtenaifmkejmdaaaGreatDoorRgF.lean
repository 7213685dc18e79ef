/- The reference: Differ (written by gen_rgd.py). -/
import Derived.Test.YtenaifmkejmdaaaGreatDoorDfW
namespace Go.Proofs.YtenaifmkejmdaaaGreatDoor
open Go.RowKit

/-- the numbers up to k at which two lists differ -/
def difT (a b : List Item) (k : Nat) : List Int := (List.range k).filterMap fun i : Nat => if difB a b ((i : Int) + 1) then some ((i : Int) + 1) else none
theorem difT_all (a b : List Item) : difT a b 9999 = difF a b := rfl
theorem difT_succ (a b : List Item) (k : Nat) : difT a b (k + 1) = difT a b k ++ if difB a b ((k : Int) + 1) = true then [(k : Int) + 1] else [] := by
  unfold difT
  rw [List.range_succ, List.filterMap_append]
  congr 1
  by_cases h : difB a b ((k : Int) + 1) = true
  · simp [h]
  · simp [h]
theorem difT_len (a b : List Item) (k : Nat) : (difT a b k).length ≤ k := by
  unfold difT
  exact Nat.le_trans (List.length_filterMap_le _ _) (by rw [List.length_range]; exact Nat.le_refl _)
set_option maxRecDepth 100000 in
set_option maxHeartbeats 8000000 in
theorem rdiffer_c (a b : TL) (va vb : Value) (w : World) (B : Nat) (hB : B ≤ w.heap.size) (ha : TLRep w B a va) (hb : TLRep w B b vb) :
    Calls Tryz.prog 26 #[tlV a va, tlV b vb] w fun e w' => difQ a b w e w' := by
  have hb0 : Below (w.heap.size + 2) (smW w a b va vb) (smW w a b va vb) := Below.refl _ _
  have KC := Lib.hid (fun (W : World) (hW : Below (w.heap.size + 2) (smW w a b va vb) W) => smW_two hW)
  have HUP := Lib.hid (fun (W : World) (hW : Below (w.heap.size + 2) (smW w a b va vb) W) => up_two hW)
  have HRA := Lib.hid (fun (W : World) (hW : Below w.heap.size w W) => rright_c a va W B (Nat.le_trans hB hW.size) (ha.below itmS (hW.mono hB)))
  have HRB := Lib.hid (fun (W : World) (hW : Below w.heap.size w W) => rright_c b vb W B (Nat.le_trans hB hW.size) (hb.below itmS (hW.mono hB)))
  have HFA := Lib.hid (fun (n : Int) (W : World) (hW : Below w.heap.size w W) => rfind_c a va n W B (Nat.le_trans hB hW.size) (ha.below itmS (hW.mono hB)))
  have HFB := Lib.hid (fun (n : Int) (W : World) (hW : Below w.heap.size w W) => rfind_c b vb n W B (Nat.le_trans hB hW.size) (hb.below itmS (hW.mono hB)))
  obtain ⟨Aa, ca, rfl, -⟩ := id ha
  obtain ⟨Ab, cb, rfl, -⟩ := id hb
  cases hra : rightB a
  · rw [hra] at HRA
    have HX := Lib.hid hra
    clear hra
    obtain ⟨⟨z0, z1, z2, z3, zl⟩, y0, y1, y2, y3, yl⟩ := KC.out _ hb0
    go_enter Tryz.func26, Tryz.ntmps26
    go_wp2_with fail
    refine (HRA.out _ (HUP.out _ hb0)).mono ?_
    rintro e w1 ⟨rfl, hb1⟩
    have hbX := bnd_call hb0 (by simp) hb1
    go_wp2
    go_ret2
    exact difQ_nil (.inl HX.out) (HUP.out _ hbX)
  · rw [hra] at HRA
    cases hrb : rightB b
    · rw [hrb] at HRB
      have HX := Lib.hid hrb
      clear hra hrb
      obtain ⟨⟨z0, z1, z2, z3, zl⟩, y0, y1, y2, y3, yl⟩ := KC.out _ hb0
      go_enter Tryz.func26, Tryz.ntmps26
      go_wp2_with fail
      refine (HRA.out _ (HUP.out _ hb0)).mono ?_
      rintro e w1 ⟨rfl, hb1⟩
      have hbX := bnd_call hb0 (by simp) hb1
      clear z0 z1 z2 z3 zl y0 y1 y2 y3 yl hb1
      obtain ⟨⟨z0, z1, z2, z3, zl⟩, y0, y1, y2, y3, yl⟩ := KC.out _ hbX
      go_wp2_with fail
      refine (HRB.out _ (HUP.out _ hbX)).mono ?_
      rintro e w2 ⟨rfl, hb2⟩
      have hbX := bnd_call hbX (by simp) hb2
      go_wp2
      go_ret2
      exact difQ_nil (.inr HX.out) (HUP.out _ hbX)
    · rw [hrb] at HRB
      have HR := Lib.hid (dif_right hra hrb)
      clear hra hrb
      obtain ⟨⟨z0, z1, z2, z3, zl⟩, y0, y1, y2, y3, yl⟩ := KC.out _ hb0
      go_enter Tryz.func26, Tryz.ntmps26
      go_wp2_with fail
      refine (HRA.out _ (HUP.out _ hb0)).mono ?_
      rintro e w1 ⟨rfl, hb1⟩
      have hbX := bnd_call hb0 (by simp) hb1
      clear z0 z1 z2 z3 zl y0 y1 y2 y3 yl hb1
      obtain ⟨⟨z0, z1, z2, z3, zl⟩, y0, y1, y2, y3, yl⟩ := KC.out _ hbX
      go_wp2_with fail
      refine (HRB.out _ (HUP.out _ hbX)).mono ?_
      rintro e w2 ⟨rfl, hb2⟩
      have hbX := bnd_call hbX (by simp) hb2
      clear z0 z1 z2 z3 zl y0 y1 y2 y3 yl hb2
      have hX2 : w.heap.size + 2 ≤ w2.heap.size := by have := hbX.size; simp at this; exact this
      have HO0 := Lib.hid (show OwnRep 1 (flat intEnc) 3 (w.heap.size + 2) w2 (difT a.items b.items 0) (.slice none 0 0) from OwnRep.nil_)
      go_wp2
      go_loopw [6, 7] (fun u i wr => ∃ (k : Nat) (uv : Value), k ≤ 9999 ∧ i = .int .i64 ((k : Int) + 1) ∧ uv = u ∧ Hid (OwnRep 1 (flat intEnc) 3 (w.heap.size + 2) wr (difT a.items b.items k) uv) ∧ Below (w.heap.size + 2) (smW w a b (.slice Aa a.items.length ca) (.slice Ab b.items.length cb)) wr ∧ w.heap.size + 2 ≤ wr.heap.size) (fun _ i _ => 10000 - (intOf i).toNat)
      case atStart => exact ⟨0, _, Nat.zero_le _, rfl, rfl, HO0, hbX, hX2⟩
      case round =>
        clear HO0
        obtain ⟨k, uv, hk, rfl, rfl, HO, hbr, hsr0⟩ := hrel
        obtain ⟨Au, nu, cu, rfl, hnu⟩ := own_form intS HO.out
        have HYL := Lib.hid (show (difT a.items b.items k).length ≤ 9999 from Nat.le_trans (difT_len _ _ _) hk)
        obtain ⟨en, hen⟩ : ∃ n : Int, (k : Int) + 1 = n := ⟨_, rfl⟩
        have HTS := Lib.hid (show difT a.items b.items (k + 1) = difT a.items b.items k ++ if difB a.items b.items en = true then [en] else [] by rw [← hen]; exact difT_succ _ _ _)
        have hek : (k < 9999 ∧ en ≤ 9999) ∨ (k = 9999 ∧ ¬ en ≤ 9999) := by omega
        have hwe : IntKind.i64.wrap (en + 1) = en + 1 := IntWalk.i64_in _ (by omega)
        rw [hen]
        have hen := Lib.hid hen.symm
        rcases hek with ⟨hlt, hle⟩ | ⟨hk9, hle⟩
        · obtain ⟨⟨z0, z1, z2, z3, zl⟩, y0, y1, y2, y3, yl⟩ := KC.out _ hbr
          go_wp2_with fail
          refine (HFA.out en _ (HUP.out _ hbr)).mono ?_
          rintro e w7 ⟨rfl, hb7⟩
          obtain ⟨x, hx⟩ : ∃ x, fndI a.items en = x := ⟨_, rfl⟩
          obtain ⟨p, hp⟩ : ∃ p, fndB a.items en = p := ⟨_, rfl⟩
          rw [hx, hp]
          have bx : Below w7.heap.size w7 (w7.alloc (itmC x)) := (Below.refl _ _).alloc (Nat.le_refl _) _
          have hb7x := hb7.trans (bx.mono hb7.size)
          have hbA := bnd_call hbr (by simp) hb7x
          have hbx0 : Below (w7.heap.size + 1) (w7.alloc (itmC x)) (w7.alloc (itmC x)) := Below.refl _ _
          clear z0 z1 z2 z3 zl y0 y1 y2 y3 yl
          obtain ⟨⟨z0, z1, z2, z3, zl⟩, y0, y1, y2, y3, yl⟩ := KC.out _ hbA
          go_wp2_with fail
          refine (HFB.out en _ (HUP.out _ hbA)).mono ?_
          rintro e w8 ⟨rfl, hb8⟩
          obtain ⟨y, hy⟩ : ∃ y, fndI b.items en = y := ⟨_, rfl⟩
          obtain ⟨q, hq⟩ : ∃ q, fndB b.items en = q := ⟨_, rfl⟩
          rw [hy, hq]
          have HDB := Lib.hid (show difB a.items b.items en = ((p != q) || !eqItem x y) by rw [difB_fnd, hx, hp, hy, hq])
          have by_ : Below w8.heap.size w8 (w8.alloc (itmC y)) := (Below.refl _ _).alloc (Nat.le_refl _) _
          have hb8y := hb8.trans (by_.mono hb8.size)
          have hbB := bnd_call hbA (by simp) hb8y
          have hbxy := bnd_call hbx0 (by simp) hb8y
          have hb15y := hb7x.trans (hb8y.mono hb7x.size)
          have hyc := itm_at (heap_newA w8 (itmC y))
          have hyl9 := heap_ltA (heap_newA w8 (itmC y))
          obtain ⟨j0, j1, j2, j3, j4, j5, j6⟩ := hyc
          obtain ⟨i0, i1, i2, i3, i4, i5, i6, il⟩ := itmW_at hbxy
          have hO8 := HO.out.below intS hb15y
          have hz8' : w.heap.size + 2 ≤ w8.heap.size := by have h1 := hb7x.size; have h2 := hb8.size; simp at h1 h2; omega
          have hs9 : w.heap.size + 2 ≤ (w8.alloc (itmC y)).heap.size := by simp; omega
          have hne := fun W : World => Item.neq x y W
          have b67 : Below (w8.alloc (itmC y)).heap.size (w8.alloc (itmC y)) ((w8.alloc (itmC y)).alloc (.cells #[.int .i64 en] 3)) := (Below.refl _ _).alloc (Nat.le_refl _) _
          clear hx hp hy hq hb7 hb7x hb8 hb8y hbx0 hbxy HO bx by_ z0 z1 z2 z3 zl y0 y1 y2 y3 yl hbA hbr hb15y
          have HOX := Lib.hid (hO8.below intS b67)
          have HBX := Lib.hid (bnd_call hbB (by simp) b67)
          by_cases hpq0 : p = q
          · have hpq : (p != q) = false := by simp [hpq0]
            cases hxy : eqItem x y
            · have HDT := Lib.hid (HTS.out.trans (show _ = difT a.items b.items k ++ [en] by rw [HDB.out, hpq, hxy]; rfl))
              rw [hxy] at hne
              simp only [Bool.not_false] at hne
              subst hpq0
              have hylx := hO8.own_lt
              go_wp2_with (at_builtin; refine stop_intro ?_)
              refine stop_elim ?_
              refine wpList_append_rep rfl intS intE_ (w.heap.size + 2) (.tmp 44) (.tmp 46) rfl rfl (HOX.out) rfl (ys := [en]) (SlRep.one_new intS (F := fun _ => False) ?hgA (rfl : [Value.int .i64 en] = _) ?hF1A) ?FA ?nA (by decide) ?hbaseA ?_
              case hgA => simp
              case hF1A => exact fun _ h => h.elim
              case FA =>
                intro bb hbb
                rcases hbb with hbb | hbb
                · exact hbb.elim
                · subst hbb
                  exact ⟨by simp, fun he => by have := (hylx _ he).2; simp at this⟩
              case nA => have := HYL.out; simp only [List.length_cons, List.length_nil]; omega
              case hbaseA => simp; omega
              intro v18 w18 hown18 hg18 hat18
              have hb18 := HBX.out.grown hg18 (by simp; omega) (fun j hj => by have := (hylx j hj).1; omega)
              have hs18 : w.heap.size + 2 ≤ w18.heap.size := by have := hg18.size; simp at this; omega
              have HON := Lib.hid (show OwnRep 1 (flat intEnc) 3 (w.heap.size + 2) w18 (difT a.items b.items (k + 1)) v18 by rw [HDT.out]; exact hown18)
              obtain ⟨A18, n18, c18, rfl, hn18⟩ := own_form intS hown18
              clear hg18 hat18 hown18
              go_wp2
              go_roundw
              case rel => exact ⟨k + 1, _, by omega, by rw [hen.out]; go_num, rfl, HON, hb18, hs18⟩
              case measure => rw [hen.out]; simp [intOf]; omega
            · have HDT := Lib.hid (HTS.out.trans (show _ = difT a.items b.items k by rw [HDB.out, hpq, hxy]; simp))
              rw [hxy] at hne
              simp only [Bool.not_true] at hne
              subst hpq0
              have HON := Lib.hid (show OwnRep 1 (flat intEnc) 3 (w.heap.size + 2) (w8.alloc (itmC y)) (difT a.items b.items (k + 1)) (.slice Au nu cu) by rw [HDT.out]; exact hO8)
              clear hO8
              go_wp2
              go_roundw
              case rel => exact ⟨k + 1, _, by omega, by rw [hen.out]; go_num, rfl, HON, hbB, hs9⟩
              case measure => rw [hen.out]; simp [intOf]; omega
          · have hpq : q = !p := by cases p <;> cases q <;> simp_all
            have HDT := Lib.hid (HTS.out.trans (show _ = difT a.items b.items k ++ [en] by rw [HDB.out, hpq]; simp))
            subst hpq
            have hylx := hO8.own_lt
            go_wp2_with (at_builtin; refine stop_intro ?_)
            refine stop_elim ?_
            refine wpList_append_rep rfl intS intE_ (w.heap.size + 2) (.tmp 44) (.tmp 46) rfl rfl (HOX.out) rfl (ys := [en]) (SlRep.one_new intS (F := fun _ => False) ?hgB (rfl : [Value.int .i64 en] = _) ?hF1B) ?FB ?nB (by decide) ?hbaseB ?_
            case hgB => simp
            case hF1B => exact fun _ h => h.elim
            case FB =>
              intro bb hbb
              rcases hbb with hbb | hbb
              · exact hbb.elim
              · subst hbb
                exact ⟨by simp, fun he => by have := (hylx _ he).2; simp at this⟩
            case nB => have := HYL.out; simp only [List.length_cons, List.length_nil]; omega
            case hbaseB => simp; omega
            intro v18 w18 hown18 hg18 hat18
            have hb18 := HBX.out.grown hg18 (by simp; omega) (fun j hj => by have := (hylx j hj).1; omega)
            have hs18 : w.heap.size + 2 ≤ w18.heap.size := by have := hg18.size; simp at this; omega
            have HON := Lib.hid (show OwnRep 1 (flat intEnc) 3 (w.heap.size + 2) w18 (difT a.items b.items (k + 1)) v18 by rw [HDT.out]; exact hown18)
            obtain ⟨A18, n18, c18, rfl, hn18⟩ := own_form intS hown18
            clear hg18 hat18 hown18
            go_wp2
            go_roundw
            case rel => exact ⟨k + 1, _, by omega, by rw [hen.out]; go_num, rfl, HON, hb18, hs18⟩
            case measure => rw [hen.out]; simp [intOf]; omega
        · have hO := HO.out
          rw [hk9, difT_all, ← HR.out.2] at hO
          have HQ := Lib.hid (hO.base_le (base' := w.heap.size) (Nat.le_add_right _ _))
          clear hO HO
          go_wp2
          go_ret2
          exact ⟨.slice Au nu cu, by rw [HR.out.1]; rfl, HQ.out, HUP.out _ hbr⟩
end Go.Proofs.YtenaifmkejmdaaaGreatDoor
