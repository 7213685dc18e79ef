/- The program: choose. -/
import Derived.Test.YtbmlnflacdockaaGreatDoorPrE
namespace Go.Proofs.YtbmlnflacdockaaGreatDoor
open Go.RowKit

theorem chooseG_cons (ord : List ByteArray) (out : List Fact) (f : Fact) (r : List Fact) : chooseG ord out (f :: r) = match out.getLast? with
    | none => chooseG ord (out ++ [f]) r
    | some q => if q.el ≠ f.el then chooseG ord (out ++ [f]) r else if rankF ord f.lang < rankF ord q.lang then chooseG ord (out.dropLast ++ [f]) r else chooseG ord out r := rfl
theorem OwnRep.set3 {e : TypeId} {base : Nat} {w : World} {xs : List Fact} {g n cap i : Nat} (h : OwnRep 3 (flat Fact.enc) e base w xs (.slice (some ⟨g, 0, none⟩) n cap)) {q f : Fact} (hx : xs[i]? = some q) :
    OwnRep 3 (flat Fact.enc) e base (((w.setCell ⟨g, i * 3, none⟩ (.int .i64 f.el)).setCell ⟨g, i * 3 + 1, none⟩ (.string f.lang)).setCell ⟨g, i * 3 + 2, none⟩ (.string f.text)) (xs.set i f) (.slice (some ⟨g, 0, none⟩) n cap) := by
  have hil := lt_of_at hx
  have h1 := h.set_ (j := 0) (x' := ⟨f.el, q.lang, q.text⟩) fctS hx (by omega) rfl
  have h2 := h1.set_ (j := 1) (x := ⟨f.el, q.lang, q.text⟩) (x' := ⟨f.el, f.lang, q.text⟩) fctS (by rw [List.getElem?_set, if_pos rfl, if_pos hil]) (by omega) rfl
  have h3 := h2.set_ (j := 2) (x := ⟨f.el, f.lang, q.text⟩) (x' := f) fctS (by rw [List.set_set, List.getElem?_set, if_pos rfl, if_pos hil]) (by omega) rfl
  rw [List.set_set, List.set_set] at h3
  exact h3
theorem set_last {α : Type} (o : List α) (q f : α) : (o ++ [q]).set o.length f = o ++ [f] := by simp
set_option maxRecDepth 100000 in
set_option maxHeartbeats 8000000 in
theorem choose_c (xs : List Fact) (ord : List ByteArray) (v vo : Value) (w : World) (B : Nat) (hB : B ≤ w.heap.size) (h : Facts w B xs v) (ho : Strs w w.heap.size ord vo) (h32 : xs.length ≤ 32) :
    Calls Tryz.prog 54 #[v, vo] w fun e w' => ∃ v', e = .returned v' ∧ OwnRep 3 (flat Fact.enc) 49 w.heap.size w' (chooseF ord xs) v' ∧ Below w.heap.size w w' := by
  obtain ⟨A, ca, rfl, hc1, hc2, _⟩ := id h
  obtain ⟨Ao, co, rfl, hd1, hd2, _⟩ := id ho
  have HE := Lib.hid (show chooseF ord xs = chooseG ord [] (xs.drop 0) from rfl)
  have HRK := Lib.hid (fun (x : ByteArray) (W : World) (hW : Below w.heap.size w W) => sindex_c x ord (.slice Ao ord.length co) W (fun b => b < w.heap.size) (fun b hb => Nat.lt_of_lt_of_le hb hW.size) (ho.below strS hW))
  go_enter Tryz.func54, Tryz.ntmps54
  go_wp2
  go_loopw [5, 11] (fun v5 v11 wr => ∃ (k : Nat) (out : List Fact), k ≤ xs.length ∧ v11 = .int .i64 k ∧ out.length ≤ k ∧ Hid (chooseF ord xs = chooseG ord out (xs.drop k)) ∧ OwnRep 3 (flat Fact.enc) 49 w.heap.size wr out v5 ∧ Below w.heap.size w wr) (fun _ v11 _ => xs.length - (intOf v11).toNat)
  case atStart => exact ⟨0, [], Nat.zero_le _, rfl, by simp, HE, OwnRep.nil_, Below.refl _ _⟩
  case round =>
    clear HE
    obtain ⟨k, out, hk, rfl, hok, HS, hown, Br⟩ := hrel
    have hsr := Br.size
    by_cases hlt : k < xs.length
    · obtain ⟨f, hx⟩ := get_at xs hlt
      have HD := Lib.hid (drop_at hx)
      obtain ⟨b, off, rfl, hbB, g0, g1, g2⟩ := Facts.at_ (h.below fctS (Br.mono hB)) hx
      have hbw : b < wr.heap.size := by omega
      have bx := (Below.refl wr.heap.size wr).alloc (Nat.le_refl _) (fctC f)
      have Bx := Br.trans (bx.mono hsr)
      have KF := Lib.hid (fun (W : World) (hW : Below (wr.heap.size + 1) (wr.alloc (fctC f)) W) => (⟨(hW.cell (p := ⟨wr.heap.size, 0, none⟩) (by simp)).trans (by simp), (hW.cell (p := ⟨wr.heap.size, 1, none⟩) (by simp)).trans (by simp), (hW.cell (p := ⟨wr.heap.size, 2, none⟩) (by simp)).trans (by simp), by have := hW.size; simp at this; omega⟩ : W.cell? ⟨wr.heap.size, 0, none⟩ = some (.int .i64 f.el) ∧ W.cell? ⟨wr.heap.size, 1, none⟩ = some (.string f.lang) ∧ W.cell? ⟨wr.heap.size, 2, none⟩ = some (.string f.text) ∧ wr.heap.size < W.heap.size))
      have HOL := Lib.hid hown.own_lt
      clear hx
      rcases List.eq_nil_or_concat out with rfl | ⟨o, q, hoq⟩
      · have HN := Lib.hid (show chooseF ord xs = chooseG ord ([] ++ [f]) (xs.drop (k + 1)) by rw [HS.out, HD.out, chooseG_cons]; rfl)
        rcases hown.cases_ with ⟨rfl, -⟩ | ⟨g, cap, rfl, hgb, hgl, hcp1, hcp2⟩
        · go_wp2
          go_quiet (fail)
          have hW2 : Below (wr.heap.size + 1) (wr.alloc (fctC f)) ((wr.alloc (fctC f)).drewN nq) := below_drewN (Below.refl _ _) nq
          generalize ((wr.alloc (fctC f)).drewN nq) = W2 at *
          obtain ⟨y0, y1, y2, yl⟩ := KF.out _ hW2
          have bW := bx.trans (hW2.mono (Nat.le_succ _))
          have hs2 := hW2.size
          simp only [World.size_alloc] at hs2
          have hlo : ∀ b, (.slice none 0 0 : Value).ownBlock = some b → w.heap.size ≤ b ∧ b < wr.heap.size := fun b hb => by cases hb
          go_wp2_with (at_builtin; refine stop_intro ?_)
          refine stop_elim ?_
          have sF : ∀ b, (False ∨ b = W2.heap.size) → b < (W2.alloc (.cells (Fact.enc f).toArray 49)).heap.size ∧ (.slice none 0 0 : Value).ownBlock ≠ some b := fun b hb => by
            rcases hb with hb | rfl
            · exact hb.elim
            · exact ⟨by simp, fun e => by have := (hlo _ e).2; omega⟩
          refine wpList_append_rep (xs := []) rfl fctS fctE_ w.heap.size (.tmp 31) (.tmp 33) rfl rfl (OwnRep.nil_) rfl (ys := [f]) (SlRep.one_new fctS (w := W2) (F := fun _ => False) (x := f) (cs := Fact.enc f) rfl rfl (fun b hb => hb.elim)) sF (by simp) (by decide) (by simp; omega) ?_
          intro v6 w6 hown6 hg6 hat6
          have b6 : Below w.heap.size w w6 := (bnd_alloc (Br.trans (bW.mono hsr)) (Nat.le_refl _) _).grown hg6 (by simp; omega) (fun k hk => (hlo k hk).1)
          clear y0 y1 y2 yl
          go_wp2
          go_roundw
          case rel => exact ⟨k + 1, _, by omega, by go_num, by simp, HN, hown6, b6⟩
          case measure => simp [intOf]; omega
        · go_wp2
          go_quiet (fail)
          have hW2 : Below (wr.heap.size + 1) (wr.alloc (fctC f)) ((wr.alloc (fctC f)).drewN nq) := below_drewN (Below.refl _ _) nq
          generalize ((wr.alloc (fctC f)).drewN nq) = W2 at *
          obtain ⟨y0, y1, y2, yl⟩ := KF.out _ hW2
          have bW := bx.trans (hW2.mono (Nat.le_succ _))
          have hs2 := hW2.size
          simp only [World.size_alloc] at hs2
          have hlo : ∀ b, (.slice (some ⟨g, 0, none⟩) ([] : List Fact).length cap : Value).ownBlock = some b → w.heap.size ≤ b ∧ b < wr.heap.size := fun b hb => HOL.out b hb
          go_wp2_with (at_builtin; refine stop_intro ?_)
          refine stop_elim ?_
          have sF : ∀ b, (False ∨ b = W2.heap.size) → b < (W2.alloc (.cells (Fact.enc f).toArray 49)).heap.size ∧ (.slice (some ⟨g, 0, none⟩) ([] : List Fact).length cap : Value).ownBlock ≠ some b := fun b hb => by
            rcases hb with hb | rfl
            · exact hb.elim
            · exact ⟨by simp, fun e => by have := (hlo _ e).2; omega⟩
          refine wpList_append_rep (xs := []) rfl fctS fctE_ w.heap.size (.tmp 31) (.tmp 33) rfl rfl ((hown.below fctS (bnd_alloc bW (Nat.le_refl _) _))) rfl (ys := [f]) (SlRep.one_new fctS (w := W2) (F := fun _ => False) (x := f) (cs := Fact.enc f) rfl rfl (fun b hb => hb.elim)) sF (by simp) (by decide) (by simp; omega) ?_
          intro v6 w6 hown6 hg6 hat6
          have b6 : Below w.heap.size w w6 := (bnd_alloc (Br.trans (bW.mono hsr)) (Nat.le_refl _) _).grown hg6 (by simp; omega) (fun k hk => (hlo k hk).1)
          clear y0 y1 y2 yl
          go_wp2
          go_roundw
          case rel => exact ⟨k + 1, _, by omega, by go_num, by simp, HN, hown6, b6⟩
          case measure => simp [intOf]; omega
      · rw [List.concat_eq_append] at hoq
        subst hoq
        have HLQ := Lib.hid (show (o ++ [q]).getLast? = some q by simp)
        have hol : o.length + 1 ≤ k := by simpa using hok
        obtain ⟨g, cap, rfl, hgb, hgl, hcp1, hcp2⟩ := own_ptr hown (n := o.length + 1) (by simp) (by omega)
        obtain ⟨b2, off2, e2, -, q0, q1, q2⟩ := Facts.at_ (hown.toSl fctS) (show (o ++ [q])[o.length]? = some q by simp)
        injection e2 with e2
        injection e2 with e3 e4
        subst e3 e4
        simp only [Nat.zero_add] at q0 q1 q2
        have u0 := (bx.cell (p := ⟨g, o.length * 3, none⟩) hgl).trans q0
        have u1 := (bx.cell (p := ⟨g, o.length * 3 + 1, none⟩) hgl).trans q1
        have hki0 : (0 : Int) ≤ (o.length : Int) := by omega
        have hki1 : (o.length : Int) < (o.length : Int) + 1 := by omega
        have hki2 : ((o.length : Int) + 1 == 0) = false := by simp; omega
        have hw0 : IntKind.i64.wrap ((o.length : Int) + 1 - 1) = (o.length : Int) := by rw [Int.add_sub_cancel]; exact IntWalk.i64_in _ (by omega)
        have hw1 : IntKind.i64.wrap (o.length : Int) = (o.length : Int) := IntWalk.i64_in _ (by omega)
        by_cases hqf : q.el = f.el
        · have hne : (q.el != f.el) = false := by simp [hqf]
          have HQF := Lib.hid hqf
          clear hqf
          go_wp2
          go_region_held3 (fun W => W.cell? ⟨g, o.length * 3, none⟩ = some (.int .i64 q.el) ∧ W.cell? ⟨wr.heap.size, 0, none⟩ = some (.int .i64 f.el)) (simp [go_sem, *]) (fail)
          have hW2 : Below (wr.heap.size + 1) (wr.alloc (fctC f)) (wr.alloc (fctC f)).drew := (Below.refl _ _).drew
          generalize (wr.alloc (fctC f)).drew = W2 at *
          obtain ⟨y0, y1, y2, yl⟩ := KF.out _ hW2.drew
          have bW := bx.trans (hW2.mono (Nat.le_succ _))
          have BW := (Br.trans (bW.mono hsr)).drew
          have p1 := (bW.drew.cell (p := ⟨g, o.length * 3 + 1, none⟩) hgl).trans q1
          by_cases hrk : rankF ord f.lang < rankF ord q.lang
          · have hd : decide (idxF (fun x => decide (x = f.lang)) ord < idxF (fun x => decide (x = q.lang)) ord) = true := decide_eq_true hrk
            have HN := Lib.hid (show chooseF ord xs = chooseG ord (o ++ [f]) (xs.drop (k + 1)) by rw [HS.out, HD.out, chooseG_cons, HLQ.out]; simp only; rw [if_neg (by simp [HQF.out]), if_pos hrk, List.dropLast_concat])
            clear hrk
            go_wp2
            go_region_held3 (fun W => W.cell? ⟨g, o.length * 3 + 1, none⟩ = some (.string q.lang) ∧ W.cell? ⟨wr.heap.size, 1, none⟩ = some (.string f.lang)) (with_reducible exact ⟨p1, y1⟩) (first
              | (go_at_call 64; (with_reducible refine (HRK.out _ _ BW).mono ?_); rintro e w' ⟨rfl, rfl⟩))
            have hown2 := hown.below fctS bW.drew
            have hown3 := hown.below fctS bW
            obtain ⟨⟨c0, z0⟩, ⟨c1, z1⟩, c2, z2⟩ : ((W2.cell? ⟨g, o.length * 3, none⟩ = some (.int .i64 q.el)) ∧ (W2.frozen? ⟨g, o.length * 3, none⟩ = false)) ∧ ((W2.cell? ⟨g, o.length * 3 + 1, none⟩ = some (.string q.lang)) ∧ (W2.frozen? ⟨g, o.length * 3 + 1, none⟩ = false)) ∧ ((W2.cell? ⟨g, o.length * 3 + 2, none⟩ = some (.string q.text)) ∧ (W2.frozen? ⟨g, o.length * 3 + 2, none⟩ = false)) := by
              obtain ⟨g', cap', ev, -, -, -, -, -, hcf⟩ := hown3.open_ fctS (by simp)
              injection ev with ev
              injection ev with ev
              injection ev with ev
              subst ev
              exact ⟨hcf o.length q 0 _ (by simp) rfl, hcf o.length q 1 _ (by simp) rfl, hcf o.length q 2 _ (by simp) rfl⟩
            have hset := hown3.set3 (f := f) (q := q) (i := o.length) (by simp)
            rw [set_last] at hset
            clear hown2 p1 q0 q1 q2 u0 u1 hown3
            go_wp2
            go_roundw
            case rel => exact ⟨k + 1, _, by omega, by go_num, by simp; omega, HN, hset.below fctS (Below.refl _ _).drew, (((BW.setCell hgb _).setCell hgb _).setCell hgb _)⟩
            case measure => simp [intOf]; omega
          · have hd : decide (idxF (fun x => decide (x = f.lang)) ord < idxF (fun x => decide (x = q.lang)) ord) = false := decide_eq_false hrk
            have HN := Lib.hid (show chooseF ord xs = chooseG ord (o ++ [q]) (xs.drop (k + 1)) by rw [HS.out, HD.out, chooseG_cons, HLQ.out]; simp only; rw [if_neg (by simp [HQF.out]), if_neg hrk])
            clear hrk
            go_wp2
            go_region_held3 (fun W => W.cell? ⟨g, o.length * 3 + 1, none⟩ = some (.string q.lang) ∧ W.cell? ⟨wr.heap.size, 1, none⟩ = some (.string f.lang)) (with_reducible exact ⟨p1, y1⟩) (first
              | (go_at_call 64; (with_reducible refine (HRK.out _ _ BW).mono ?_); rintro e w' ⟨rfl, rfl⟩))
            go_wp2
            go_roundw
            case rel => exact ⟨k + 1, _, by omega, by go_num, by simp; omega, HN, hown.below fctS bW.drew, BW⟩
            case measure => simp [intOf]; omega
        · have hne : (q.el != f.el) = true := by simp [hqf]
          have HN := Lib.hid (show chooseF ord xs = chooseG ord ((o ++ [q]) ++ [f]) (xs.drop (k + 1)) by rw [HS.out, HD.out, chooseG_cons, HLQ.out]; simp only; rw [if_pos hqf])
          clear hqf
          go_wp2
          go_region_held3 (fun W => W.cell? ⟨g, o.length * 3, none⟩ = some (.int .i64 q.el) ∧ W.cell? ⟨wr.heap.size, 0, none⟩ = some (.int .i64 f.el)) (simp [go_sem, *]) (fail)
          have hW2 : Below (wr.heap.size + 1) (wr.alloc (fctC f)) (wr.alloc (fctC f)).drew := (Below.refl _ _).drew
          generalize (wr.alloc (fctC f)).drew = W2 at *
          obtain ⟨y0, y1, y2, yl⟩ := KF.out _ hW2
          have bW := bx.trans (hW2.mono (Nat.le_succ _))
          have hs2 := hW2.size
          simp only [World.size_alloc] at hs2
          have hlo : ∀ b, (.slice (some ⟨g, 0, none⟩) (o.length + 1) cap : Value).ownBlock = some b → w.heap.size ≤ b ∧ b < wr.heap.size := fun b hb => HOL.out b hb
          go_wp2_with (at_builtin; refine stop_intro ?_)
          refine stop_elim ?_
          have sF : ∀ b, (False ∨ b = W2.heap.size) → b < (W2.alloc (.cells (Fact.enc f).toArray 49)).heap.size ∧ (.slice (some ⟨g, 0, none⟩) (o.length + 1) cap : Value).ownBlock ≠ some b := fun b hb => by
            rcases hb with hb | rfl
            · exact hb.elim
            · exact ⟨by simp, fun e => by have := (hlo _ e).2; omega⟩
          refine wpList_append_rep (xs := (o ++ [q])) rfl fctS fctE_ w.heap.size (.tmp 31) (.tmp 33) rfl rfl ((hown.below fctS (bnd_alloc bW (Nat.le_refl _) _))) rfl (ys := [f]) (SlRep.one_new fctS (w := W2) (F := fun _ => False) (x := f) (cs := Fact.enc f) rfl rfl (fun b hb => hb.elim)) sF (by simp; omega) (by decide) (by simp; omega) ?_
          intro v6 w6 hown6 hg6 hat6
          have b6 : Below w.heap.size w w6 := (bnd_alloc (Br.trans (bW.mono hsr)) (Nat.le_refl _) _).grown hg6 (by simp; omega) (fun k hk => (hlo k hk).1)
          clear y0 y1 y2 yl
          go_wp2
          go_roundw
          case rel => exact ⟨k + 1, _, by omega, by go_num, by simp; omega, HN, hown6, b6⟩
          case measure => simp [intOf]; omega
    · have HE := Lib.hid (show chooseF ord xs = out by rw [HS.out, List.drop_of_length_le (by omega)]; rfl)
      have hsl := hown.toSl fctS
      obtain ⟨A5, c5, rfl, -⟩ := id hsl
      go_wp2
      go_ret
      exact ⟨_, rfl, by rw [HE.out]; exact hown, Br⟩
end Go.Proofs.YtbmlnflacdockaaGreatDoor
