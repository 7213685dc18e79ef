/- The program: Find. -/
import Derived.Test.YtngodakkdhdmjaaGreatDoorMtc
import Derived.Test.YtngodakkdhdmjaaGreatDoorSoH
import Derived.Test.YtngodakkdhdmjaaGreatDoorSuq
import Derived.Test.YtngodakkdhdmjaaGreatDoorUpd
namespace Go.Proofs.YtngodakkdhdmjaaGreatDoor
open Go.RowKit

theorem sheet_ix6 {c : Cat} (h0 : catE c = 0) {k : Nat} {x : Sheet} (hx : c.sheets[k]? = some x) : shtIx c.sheets x.unit = (k : Int) := by
  rcases idxF_cases (fun y : Sheet => decide (y.unit = x.unit)) c.sheets with ⟨-, h2⟩ | ⟨j, y, h1, h2, h3, -⟩
  · have := h2 x (List.mem_of_getElem? hx)
    simp at this
  · have hy : y.unit = x.unit := by simpa using h3
    have hj : j = k := by
      refine (List.getElem?_inj (by rw [List.length_map]; exact lt_of_at h2) (units_nodup h0)).1 ?_
      rw [List.getElem?_map, List.getElem?_map, h2, hx]
      simp [hy]
    subst hj
    exact h1
abbrev hitC (y : Hit) : Obj := .cells #[.int .i64 y.unit, .int .i64 y.score] 30
theorem hit_off {v : Value} {n : Nat} {w3 : World} {o : Obj} (h : ∀ b, v.ownBlock = some b → b < n) (hs : n ≤ w3.heap.size) (c : Nat) (h1 : False ∨ c = w3.heap.size) : c < (w3.alloc o).heap.size ∧ v.ownBlock ≠ some c := by
  rcases h1 with h1 | rfl
  · exact h1.elim
  · exact ⟨by simp, fun e => by have := h _ e; omega⟩
theorem hitsF_cons (c : Cat) (s : ByteArray) (und : Int → Int → Bool) (l : List Post) (Q : Qt) (x : Sheet) (r : List Sheet) : hitsF c s und l Q (x :: r) = if mchB c s und Q x = true then hitF l Q x :: hitsF c s und l Q r else hitsF c s und l Q r := by
  unfold hitsF
  rw [List.filter_cons]
  split <;> rfl
theorem find_l {c : Cat} {s : ByteArray} {l : List Post} {q : List Ask} (h : findE c s l q = 0) : catE c = 0 ∧ askE q = 0 ∧ hasS c.langs s = true ∧ buildE c s = 0 ∧ buildF c s = l := by
  unfold findE at h
  split at h
  · omega
  split at h
  · omega
  split at h
  · omega
  · rename_i h1 h2 h3
    simp only [not_or, Decidable.not_not, Bool.not_eq_false] at h1 h2 h3
    exact ⟨h1.1, h1.2, h2, h3.1, (eqL_iff eqPost_iff _ _).1 h3.2⟩
set_option maxRecDepth 100000 in
set_option maxHeartbeats 16000000 in
theorem sfind_c (c : Cat) (s : ByteArray) (l : List Post) (q : List Ask) (Q : Qt) (v1 v2 v3 vl vq : Value) (w : World) (B : Nat) (hB : B ≤ w.heap.size) (h : CatRep w B c v1 v2 v3) (hl : Posts w B l vl) (hq : Asks w B q vq) (hQ : askE q = 0 → Q.Fit ∧ Q.ls = q) (hs : ∀ a ∈ q, a.text.size ≤ 1000000) (h14 : catE c = 0 → c.sheets.length ≤ 14) (hV : VarOk w) :
    Calls Tryz.prog 22 #[.agg #[v1, v2, v3], .string s, vl, vq] w fun e w' => ∃ v', e = .returned (.tuple #[v', .int .i64 (findE c s l q)]) ∧ OwnRep 2 (flat Hit.enc) 30 w.heap.size w' (findL c s (undB c) l q Q) v' ∧ Below w.heap.size w w' := by
  have b1 : Below w.heap.size w (w.alloc (catC v1 v2 v3)) := (Below.refl _ _).alloc (Nat.le_refl _) _
  have hb0 : Below (w.heap.size + 1) (w.alloc (catC v1 v2 v3)) (w.alloc (catC v1 v2 v3)) := Below.refl _ _
  have hsO : w.heap.size + 1 ≤ (w.alloc (catC v1 v2 v3)).heap.size := by simp
  have KC := Lib.hid (fun (W : World) (hW : Below (w.heap.size + 1) (w.alloc (catC v1 v2 v3)) W) => catW_at hW)
  have HUP := Lib.hid (fun (W : World) (hW : Below (w.heap.size + 1) (w.alloc (catC v1 v2 v3)) W) => b1.trans (hW.mono (Nat.le_succ _)))
  have HC := Lib.hid (fun (W : World) (hW : Below w.heap.size w W) => Check_c c v1 v2 v3 W B (Nat.le_trans hB hW.size) (h.below (hW.mono hB)))
  have HA := Lib.hid (fun (W : World) (hW : Below w.heap.size w W) => qcheck_c q vq W B (Nat.le_trans hB hW.size) (hq.below askS (hW.mono hB)) hs (hV.below hW))
  have HS := Lib.hid (fun (W : World) (hW : Below w.heap.size w W) => scontains_c s c.langs v1 W (fun b => b < B) (fun b hb => by have : b < B := hb; have := hW.size; omega) (h.langs.below strS (hW.mono hB)))
  have HBU := Lib.hid (fun (W : World) (hW : Below w.heap.size w W) => iBuild_c c s v1 v2 v3 W B (Nat.le_trans hB hW.size) (h.below (hW.mono hB)))
  have HEQ := Lib.hid (fun (vn : Value) (W : World) (hW : Below w.heap.size w W) (hn : Posts W W.heap.size (buildF c s) vn) => equalPosts_c (buildF c s) l vn vl W W.heap.size (Nat.le_refl _) hn ((hl.below pstS (hW.mono hB)).mono pstS (Nat.le_trans hB hW.size)))
  by_cases h0 : catE c = 0
  · rw [h0] at HC
    by_cases h1 : askE q = 0
    · rw [h1] at HA
      cases h2 : hasS c.langs s
      · have HE := Lib.hid (show findE c s l q = 10 by unfold findE; rw [if_neg (by simp [h0, h1]), if_pos h2])
        have HE2 := Lib.hid (show findL c s (undB c) l q Q = [] by unfold findL; rw [HE.out]; rfl)
        have hh' : (c.langs.any fun x => decide (x = s)) = false := h2
        rw [hh'] at HS
        rw [HE.out, HE2.out]
        obtain ⟨A1, d1, rfl, -⟩ := id h.langs
        obtain ⟨A2, d2, rfl, -⟩ := id h.labels
        obtain ⟨A3, d3, rfl, -⟩ := id h.sheets
        obtain ⟨Aq, dq, rfl, -⟩ := id hq
        obtain ⟨Al, dl, rfl, -⟩ := id hl
        clear h0 h1 h2 hh' h hq hl hQ hs h14 hV HEQ HBU
        go_enter Tryz.func22, Tryz.ntmps22
        go_wp2_with fail
        refine (HC.out _ b1).mono ?_
        rintro e w1 ⟨rfl, hb1⟩
        have hbX := bnd_call hb0 hsO hb1
        go_wp2_with fail
        refine (HA.out _ (HUP.out _ hbX)).mono ?_
        rintro e w2 ⟨rfl, hb2⟩
        have hbX := bnd_call hbX hsO hb2
        obtain ⟨z0, z1, z2, zl⟩ := KC.out _ hbX
        go_wp2_with fail
        refine (HS.out _ (HUP.out _ hbX)).mono ?_
        rintro e w3 ⟨rfl, rfl⟩
        go_wp2
        go_ret2
        exact ⟨_, rfl, OwnRep.nil_, HUP.out _ hbX⟩
      · have hh' : (c.langs.any fun x => decide (x = s)) = true := h2
        rw [hh'] at HS
        by_cases h3 : buildE c s = 0
        · rw [h3] at HBU
          cases h4 : eqL eqPost (buildF c s) l
          · have HE := Lib.hid (show findE c s l q = 11 by unfold findE; rw [if_neg (by simp [h0, h1]), if_neg (by simp [h2]), if_pos (.inr h4)])
            have HE2 := Lib.hid (show findL c s (undB c) l q Q = [] by unfold findL; rw [HE.out]; rfl)
            rw [h4] at HEQ
            rw [HE.out, HE2.out]
            obtain ⟨A1, d1, rfl, -⟩ := id h.langs
            obtain ⟨A2, d2, rfl, -⟩ := id h.labels
            obtain ⟨A3, d3, rfl, -⟩ := id h.sheets
            obtain ⟨Aq, dq, rfl, -⟩ := id hq
            obtain ⟨Al, dl, rfl, -⟩ := id hl
            clear h0 h1 h2 h3 h4 hh' h hq hl hQ hs h14 hV
            go_enter Tryz.func22, Tryz.ntmps22
            go_wp2_with fail
            refine (HC.out _ b1).mono ?_
            rintro e w1 ⟨rfl, hb1⟩
            have hbX := bnd_call hb0 hsO hb1
            go_wp2_with fail
            refine (HA.out _ (HUP.out _ hbX)).mono ?_
            rintro e w2 ⟨rfl, hb2⟩
            have hbX := bnd_call hbX hsO hb2
            obtain ⟨z0, z1, z2, zl⟩ := KC.out _ hbX
            go_wp2_with fail
            refine (HS.out _ (HUP.out _ hbX)).mono ?_
            rintro e w3 ⟨rfl, rfl⟩
            go_wp2_with fail
            refine (HBU.out _ (HUP.out _ hbX)).mono ?_
            rintro e w4 ⟨vn, rfl, hn4, hb4⟩
            have hbX := bnd_call hbX hsO hb4
            have HEX := Lib.hid (HEQ.out vn _ (HUP.out _ hbX) (hn4.toSl pstS))
            obtain ⟨An, nn, cn, rfl, -⟩ := own_form pstS hn4
            clear HEQ hn4
            go_wp2_with fail
            refine HEX.out.mono ?_
            rintro e w5 ⟨rfl, nd, rfl⟩
            go_wp2
            go_ret2
            exact ⟨_, rfl, OwnRep.nil_, below_drewN (HUP.out _ hbX) _⟩
          · have hbl : buildF c s = l := (eqL_iff eqPost_iff _ _).1 h4
            have HE := Lib.hid (show findE c s l q = 0 by unfold findE; rw [if_neg (by simp [h0, h1]), if_neg (by simp [h2]), if_neg (by simp [h3, h4])])
            have HE2 := Lib.hid (show findL c s (undB c) l q Q = sortH (hitsF c s (undB c) l Q c.sheets) by unfold findL; rw [HE.out]; rfl)
            have hchk : chkL l = 0 := by rw [← hbl]; exact build_right h3
            obtain ⟨hll, hlr, -⟩ := chkL_zero hchk
            have hpos : posG q 0 = posQ Q := by rw [← (hQ h1).2]; exact posG_is (hQ h1).1
            have HPO := Lib.hid (fun (W : World) (hW : Below w.heap.size w W) => positive_c q vq W B (Nat.le_trans hB hW.size) (hq.below askS (hW.mono hB)) (by have := (askE_zero h1).1; omega))
            rw [hpos] at HPO
            have HSU := Lib.hid (fun (u : Int) (vn : Value) (W : World) (hW : Below w.heap.size w W) (hn : Asks W W.heap.size (posQ Q) vn) => support_c l u (posQ Q) vl vn W W.heap.size (Nat.le_refl _) ((hl.below pstS (hW.mono hB)).mono pstS (Nat.le_trans hB hW.size)) hn (by omega) (fun a ha => hs a (posG_sub q 0 a (by rw [hpos]; exact ha))) (fun p hp => by
              have := hlr p hp
              unfold rightP at this
              simp only [Bool.and_eq_true, decide_eq_true_eq] at this
              omega) (hV.below hW))
            have HMA := Lib.hid (fun (k : Nat) (x : Sheet) (hx : c.sheets[k]? = some x) (W : World) (hW : Below w.heap.size w W) => (by
              have := qmatch_c c s x.unit q Q v1 v2 v3 vq W B (Nat.le_trans hB hW.size) (h.below (hW.mono hB)) (hq.below askS (hW.mono hB)) hQ hs h14 (hV.below hW)
              obtain ⟨e1, e2⟩ := mt_at (Q := Q) h0 h1 h2 (sheet_ix6 h0 hx) hx
              rw [e1, e2] at this
              exact this : Calls Tryz.prog 26 #[.agg #[v1, v2, v3], .string s, .int .i64 x.unit, vq] W fun e w' => e = .returned (.tuple #[.bool (mchB c s (undB c) Q x), .int .i64 0]) ∧ Below W.heap.size W w'))
            have hsl := (catE_zero h0).2.2.1
            have HLL := Lib.hid (fun (u : Int) => (Nat.le_trans (List.length_filter_le _ _) (by omega) : (supF l u (posQ Q)).length ≤ 1000000))
            have H0 := Lib.hid (show hitsF c s (undB c) l Q c.sheets = [] ++ hitsF c s (undB c) l Q (c.sheets.drop 0) from rfl)
            rw [h4] at HEQ
            rw [HE.out]
            obtain ⟨A1, d1, rfl, -⟩ := id h.langs
            obtain ⟨A2, d2, rfl, -⟩ := id h.labels
            obtain ⟨A3, d3, rfl, hd1, hd2, -⟩ := id h.sheets
            obtain ⟨Aq, dq, rfl, -⟩ := id hq
            obtain ⟨Al, dl, rfl, -⟩ := id hl
            have HX := Lib.hid (fun (k : Nat) (x : Sheet) (hx : c.sheets[k]? = some x) (W : World) (hW : Below w.heap.size w W) => Sheets.at_ (h.sheets.below shtS (hW.mono hB)) hx)
            clear h0 h1 h2 h3 h4 hh' h hq hl hQ hs h14 hV hbl hchk hlr hpos hll HE
            go_enter Tryz.func22, Tryz.ntmps22
            go_wp2_with fail
            refine (HC.out _ b1).mono ?_
            rintro e w1 ⟨rfl, hb1⟩
            have hbX := bnd_call hb0 hsO hb1
            go_wp2_with fail
            refine (HA.out _ (HUP.out _ hbX)).mono ?_
            rintro e w2 ⟨rfl, hb2⟩
            have hbX := bnd_call hbX hsO hb2
            obtain ⟨z0, z1, z2, zl⟩ := KC.out _ hbX
            go_wp2_with fail
            refine (HS.out _ (HUP.out _ hbX)).mono ?_
            rintro e w3 ⟨rfl, rfl⟩
            go_wp2_with fail
            refine (HBU.out _ (HUP.out _ hbX)).mono ?_
            rintro e w4 ⟨vn, rfl, hn4, hb4⟩
            have hbX := bnd_call hbX hsO hb4
            have HEX := Lib.hid (HEQ.out vn _ (HUP.out _ hbX) (hn4.toSl pstS))
            obtain ⟨An, nn, cn, rfl, -⟩ := own_form pstS hn4
            clear HEQ hn4 z0 z1 z2 zl
            go_wp2_with fail
            refine HEX.out.mono ?_
            rintro e w5 ⟨rfl, nd, rfl⟩
            have hbX := below_drewN hbX nd
            generalize w4.drewN nd = w5 at *
            go_wp2_with fail
            refine (HPO.out _ (HUP.out _ hbX)).mono ?_
            rintro e w6 ⟨vp, rfl, hp6, hb6⟩
            have hbX := bnd_call hbX hsO hb6
            have HPN := Lib.hid (fun (W : World) (hW : Below w6.heap.size w6 W) => ((hp6.toSl askS).below askS hW).mono askS hW.size)
            have HBX := Lib.hid (fun (W : World) (hW : Below w6.heap.size w6 W) => bnd_call hbX hsO hW)
            obtain ⟨Ap, np, cp, rfl, -⟩ := own_form askS hp6
            obtain ⟨z0, z1, z2, zl⟩ := KC.out _ hbX
            have hs6 := hbX.size
            simp at hs6
            clear HEX hp6 hb1 hb2 hb4 hb6
            go_wp2
            clear z0 z1 z2 zl
            go_loopw [13, 50] (fun o i wr => ∃ (k : Nat) (os : List Hit), k ≤ c.sheets.length ∧ i = .int .i64 k ∧ Hid (hitsF c s (undB c) l Q c.sheets = os ++ hitsF c s (undB c) l Q (c.sheets.drop k)) ∧ os.length ≤ k ∧ OwnRep 2 (flat Hit.enc) 30 w6.heap.size wr os o ∧ Below w6.heap.size w6 wr) (fun _ i _ => c.sheets.length - (intOf i).toNat)
            case atStart => exact ⟨0, [], Nat.zero_le _, rfl, H0, by simp, OwnRep.nil_, Below.refl _ _⟩
            case round =>
              clear H0
              obtain ⟨k, os, hk, rfl, HSS, hol, hown, bw⟩ := hrel
              have HOL := Lib.hid hol
              have hbr := HBX.out _ bw
              obtain ⟨z0, z1, z2, zl⟩ := KC.out _ hbr
              obtain ⟨Ao, no, co, rfl, -⟩ := own_form hitS hown
              by_cases hlt : k < c.sheets.length
              · obtain ⟨x, hx⟩ := get_at c.sheets hlt
                obtain ⟨b, off, vf, rfl, hbB, g0, g1, g2, g3, g4, g5, hvf⟩ := HX.out k x hx _ (HUP.out _ hbr)
                have hbw : b < wr.heap.size := by have : b < B := hbB; have := (HUP.out _ hbr).size; omega
                obtain ⟨Af, cf, rfl, -⟩ := id hvf
                have hki : (k : Int) < (c.sheets.length : Int) := by omega
                have hwk : IntKind.i64.wrap ((k : Int) + 1) = (k : Int) + 1 := IntWalk.i64_in _ (by omega)
                have hx1 : Below wr.heap.size wr (wr.alloc (shtC x (.slice Af x.facts.length cf))) := (Below.refl _ _).alloc (Nat.le_refl _) _
                have hown1 := hown.below hitS hx1
                have bw1 := bw.trans (hx1.mono bw.size)
                have HMX := Lib.hid (HMA.out k x hx _ (HUP.out _ (HBX.out _ bw1)))
                have HD := Lib.hid (show hitsF c s (undB c) l Q c.sheets = os ++ if mchB c s (undB c) Q x = true then hitF l Q x :: hitsF c s (undB c) l Q (c.sheets.drop (k + 1)) else hitsF c s (undB c) l Q (c.sheets.drop (k + 1)) by rw [HSS.out, drop_at hx, hitsF_cons])
                have HSZ := Lib.hid (show Hit.mk x.unit (scoF (supF l x.unit (posQ Q))) = hitF l Q x from rfl)
                have z0' := (hx1.cell (p := ⟨w.heap.size, 0, none⟩) zl).trans z0
                have z1' := (hx1.cell (p := ⟨w.heap.size, 1, none⟩) zl).trans z1
                have z2' := (hx1.cell (p := ⟨w.heap.size, 2, none⟩) zl).trans z2
                have HSX := Lib.hid (HSU.out x.unit (.slice Ap np cp))
                have HLX := Lib.hid (HLL.out x.unit)
                have HV0 := Lib.hid (fun (e : Value.ownBlock (.slice Ao no co) = some wr.heap.size) => (show False by have := (hown.own_lt _ e).2; omega))
                clear hx HSS hown hvf hol
                generalize mchB c s (undB c) Q x = ok at *
                go_wp2_with fail
                refine HMX.out.mono ?_
                rintro e w8 ⟨rfl, hb8⟩
                cases ok
                · have HY := Lib.hid (show hitsF c s (undB c) l Q c.sheets = os ++ hitsF c s (undB c) l Q (c.sheets.drop (k + 1)) by rw [HD.out]; rfl)
                  clear HD
                  go_wp2
                  go_roundw
                  case rel => exact ⟨k + 1, os, by omega, by go_num, HY, by have := HOL.out; omega, hown1.below hitS hb8, bw1.trans (hb8.mono bw1.size)⟩
                  case measure => simp [intOf]; omega
                · have HY := Lib.hid (show hitsF c s (undB c) l Q c.sheets = (os ++ [(⟨x.unit, scoF (supF l x.unit (posQ Q))⟩ : Hit)]) ++ hitsF c s (undB c) l Q (c.sheets.drop (k + 1)) by rw [HD.out, if_pos rfl, HSZ.out, List.append_assoc]; rfl)
                  have KEEPS := Lib.hid (fun (W : World) (hW : Below (wr.alloc (shtC x (.slice Af x.facts.length cf))).heap.size (wr.alloc (shtC x (.slice Af x.facts.length cf))) W) => ((hW.cell (p := ⟨wr.heap.size, 0, none⟩) (by simp)).trans (by simp) : W.cell? ⟨wr.heap.size, 0, none⟩ = some (.int .i64 x.unit)))
                  have HVO := Lib.hid (fun b hb => (hown1.own_lt b hb).2)
                  have HVB := Lib.hid (fun b hb => (hown1.own_lt b hb).1)
                  have KEEPG := Lib.hid (fun (W W6 : World) (hW : Below (wr.alloc (shtC x (.slice Af x.facts.length cf))).heap.size (wr.alloc (shtC x (.slice Af x.facts.length cf))) W) (hg : W.grownBy W6 (Value.ownBlock (.slice Ao no co))) => ((cell_grownM hg (by have := hW.size; simp at this; show wr.heap.size < _; omega) (fun e => HV0.out e.symm)).trans (KEEPS.out W hW) : W6.cell? ⟨wr.heap.size, 0, none⟩ = some (.int .i64 x.unit)))
                  have HHX := Lib.hid (fun (W : World) (hW : Below (wr.alloc (shtC x (.slice Af x.facts.length cf))).heap.size (wr.alloc (shtC x (.slice Af x.facts.length cf))) W) => hown1.below hitS hW)
                  have HWX := Lib.hid (fun (W : World) (hW : Below (wr.alloc (shtC x (.slice Af x.facts.length cf))).heap.size (wr.alloc (shtC x (.slice Af x.facts.length cf))) W) => bw1.trans (hW.mono bw1.size))
                  have kN : os.length + ([(⟨x.unit, scoF (supF l x.unit (posQ Q))⟩ : Hit)]).length ≤ 4294967296 := by have := HOL.out; simp only [List.length_cons, List.length_nil]; omega
                  have kB : w6.heap.size ≤ (wr.alloc (shtC x (.slice Af x.facts.length cf))).heap.size := bw1.size
                  have hbX := hb8.drew
                  clear HD z0' z1' z2' z0 z1 z2 g0 g1 g2 g3 g4 g5 hown1
                  go_wp2
                  refine wp_region_held_drew (S := fun W => W.cell? ⟨wr.heap.size, 0, none⟩ = some (.int .i64 x.unit)) (by kernel_rfl) (by with_reducible exact KEEPS.out _ hbX) (fun hHeld0 => ?_)
                  refine wpAnyH_take (i := 0) (oi := { dst := some 64, op := Go.Op.move (Go.Operand.tmp 13), type := 22, pos := "search.go:110", after := #[], guard := none }) (v := ?_) rfl (by kernel_rfl) (by kernel_rfl) (by kernel_rfl) (fun _ _ _ h => h) (Or.inl ⟨by rfl, ?_⟩) hHeld0 ?_
                  rotate_left
                  · intro w hSw
                    (try dsimp only at hSw)
                    go_simp
                    (try with_reducible rfl)
                  (try simp only [Act.put, List.setIfInBounds_toArray, List.set_cons_zero, List.set_cons_succ])
                  refine wpAnyH_take (i := 1) (oi := { dst := some 65, op := Go.Op.fieldAddr 59 (Go.Operand.tmp 15) 0, type := 0, pos := "search.go:110", after := #[], guard := none }) (v := ?_) rfl (by kernel_rfl) (by kernel_rfl) (by kernel_rfl) (fun _ _ _ h => h) (Or.inl ⟨by rfl, ?_⟩) hHeld0 ?_
                  rotate_left
                  · intro w hSw
                    (try dsimp only at hSw)
                    go_simp
                    (try with_reducible rfl)
                  (try simp only [Act.put, List.setIfInBounds_toArray, List.set_cons_zero, List.set_cons_succ])
                  refine wpAnyH_take (i := 2) (oi := { dst := some 66, op := Go.Op.load 3 (Go.Operand.tmp 65), type := 3, pos := "search.go:110", after := #[{ on := 1, ground := Go.Ground.data }], guard := none }) (v := ?_) rfl (by kernel_rfl) (by kernel_rfl) (by kernel_rfl) (fun _ _ _ h => h) (Or.inl ⟨by rfl, ?_⟩) hHeld0 ?_
                  rotate_left
                  · intro w hSw
                    (try dsimp only at hSw)
                    go_simp
                    (try with_reducible rfl)
                  (try simp only [Act.put, List.setIfInBounds_toArray, List.set_cons_zero, List.set_cons_succ])
                  refine wpAnyH_take (i := 3) (oi := { dst := some 67, op := Go.Op.move (Go.Operand.tmp 2), type := 23, pos := "search.go:110", after := #[], guard := none }) (v := ?_) rfl (by kernel_rfl) (by kernel_rfl) (by kernel_rfl) (fun _ _ _ h => h) (Or.inl ⟨by rfl, ?_⟩) hHeld0 ?_
                  rotate_left
                  · intro w hSw
                    (try dsimp only at hSw)
                    go_simp
                    (try with_reducible rfl)
                  (try simp only [Act.put, List.setIfInBounds_toArray, List.set_cons_zero, List.set_cons_succ])
                  refine wpAnyH_take (i := 4) (oi := { dst := some 68, op := Go.Op.fieldAddr 59 (Go.Operand.tmp 15) 0, type := 0, pos := "search.go:110", after := #[], guard := none }) (v := ?_) rfl (by kernel_rfl) (by kernel_rfl) (by kernel_rfl) (fun _ _ _ h => h) (Or.inl ⟨by rfl, ?_⟩) hHeld0 ?_
                  rotate_left
                  · intro w hSw
                    (try dsimp only at hSw)
                    go_simp
                    (try with_reducible rfl)
                  (try simp only [Act.put, List.setIfInBounds_toArray, List.set_cons_zero, List.set_cons_succ])
                  refine wpAnyH_take (i := 5) (oi := { dst := some 69, op := Go.Op.load 3 (Go.Operand.tmp 68), type := 3, pos := "search.go:110", after := #[{ on := 4, ground := Go.Ground.data }], guard := none }) (v := ?_) rfl (by kernel_rfl) (by kernel_rfl) (by kernel_rfl) (fun _ _ _ h => h) (Or.inl ⟨by rfl, ?_⟩) hHeld0 ?_
                  rotate_left
                  · intro w hSw
                    (try dsimp only at hSw)
                    go_simp
                    (try with_reducible rfl)
                  (try simp only [Act.put, List.setIfInBounds_toArray, List.set_cons_zero, List.set_cons_succ])
                  refine wpAnyH_take (i := 6) (oi := { dst := some 70, op := Go.Op.move (Go.Operand.tmp 12), type := 42, pos := "search.go:110", after := #[], guard := none }) (v := ?_) rfl (by kernel_rfl) (by kernel_rfl) (by kernel_rfl) (fun _ _ _ h => h) (Or.inl ⟨by rfl, ?_⟩) hHeld0 ?_
                  rotate_left
                  · intro w hSw
                    (try dsimp only at hSw)
                    go_simp
                    (try with_reducible rfl)
                  (try simp only [Act.put, List.setIfInBounds_toArray, List.set_cons_zero, List.set_cons_succ])
                  refine wpAnyH_ready (rs := [7]) (by kernel_rfl) (by simp) ?_
                  refine AllReadyH.cons (o := { dst := some 71, op := Go.Op.call { callee := Go.Callee.value (Go.Operand.func 64), args := #[Go.Operand.tmp 67, Go.Operand.tmp 69, Go.Operand.tmp 70], argTypes := #[23, 3, 42] }, type := 23, pos := "search.go:110", after := #[{ on := 3, ground := Go.Ground.data }, { on := 5, ground := Go.Ground.data }, { on := 6, ground := Go.Ground.data }], guard := none }) rfl (fun K hK => ?_) AllReadyH.nil
                  go_simp
                  (go_at_call 64; (with_reducible refine (HSX.out _ (HUP.out _ (HBX.out _ (HWX.out _ hbX))) (HPN.out _ (HWX.out _ hbX))).mono ?_); rintro e w10 ⟨v10, rfl, hs10, hb10⟩; have hbX := hbX.trans (hb10.mono hbX.size); have HSC := Lib.hid (score_c _ v10 w10 w10.heap.size (Nat.le_refl _) (hs10.toSl pstS) HLX.out); obtain ⟨A10, n10, c10, rfl, -⟩ := own_form pstS hs10)
                  go_wp2_with fail
                  refine hK.out _ _ (by first | with_reducible exact KEEPS.out _ hbX | with_reducible exact KEEPS.out _ hbA | with_reducible exact KEEPG.out _ _ hbA hg6) (fun hHeld1 => ?_)
                  clear hK K hHeld0
                  (try simp only [Act.put, List.setIfInBounds_toArray, List.set_cons_zero, List.set_cons_succ])
                  refine wpAnyH_ready (rs := [8]) (by kernel_rfl) (by simp) ?_
                  refine AllReadyH.cons (o := { dst := some 72, op := Go.Op.call { callee := Go.Callee.value (Go.Operand.func 25), args := #[Go.Operand.tmp 71], argTypes := #[23] }, type := 3, pos := "search.go:110", after := #[{ on := 7, ground := Go.Ground.data }, { on := 7, ground := Go.Ground.chain }], guard := none }) rfl (fun K hK => ?_) AllReadyH.nil
                  go_simp
                  (go_at_call 25; (with_reducible refine HSC.out.mono ?_); rintro e w11 ⟨rfl, hb11⟩; have hbX := hbX.trans (hb11.mono hbX.size); have hbA := hbX.alloc hbX.size (hitC ⟨x.unit, scoF (supF l x.unit (posQ Q))⟩); have hA := HHX.out _ hbA; have kS := SlRep.one_new hitS (w := w11) (t := 30) (F := fun _ => False) (x := (⟨x.unit, scoF (supF l x.unit (posQ Q))⟩ : Hit)) (cs := Hit.enc ⟨x.unit, scoF (supF l x.unit (posQ Q))⟩) rfl rfl (fun _ hb => hb.elim); have kF := fun b hb => hit_off (o := hitC ⟨x.unit, scoF (supF l x.unit (posQ Q))⟩) HVO.out hbX.size b hb; have kB6 := Nat.le_trans kB hbA.size; have bwA := HWX.out _ hbA)
                  go_wp2_with fail
                  refine hK.out _ _ (by first | with_reducible exact KEEPS.out _ hbX | with_reducible exact KEEPS.out _ hbA | with_reducible exact KEEPG.out _ _ hbA hg6) (fun hHeld2 => ?_)
                  clear hK K hHeld1
                  (try simp only [Act.put, List.setIfInBounds_toArray, List.set_cons_zero, List.set_cons_succ])
                  refine wpAnyH_take (i := 9) (oi := { dst := some 73, op := Go.Op.build 30 #[(0, Go.Operand.tmp 66), (1, Go.Operand.tmp 72)], type := 30, pos := "search.go:110", after := #[{ on := 2, ground := Go.Ground.data }, { on := 8, ground := Go.Ground.data }], guard := none }) (v := ?_) rfl (by kernel_rfl) (by kernel_rfl) (by kernel_rfl) (fun _ _ _ h => h) (Or.inl ⟨by rfl, ?_⟩) hHeld2 ?_
                  rotate_left
                  · intro w hSw
                    (try dsimp only at hSw)
                    go_simp
                    (try with_reducible rfl)
                  (try simp only [Act.put, List.setIfInBounds_toArray, List.set_cons_zero, List.set_cons_succ])
                  refine wpAnyH_ready (rs := [10]) (by kernel_rfl) (by simp) ?_
                  refine AllReadyH.cons (o := { dst := some 74, op := Go.Op.buildSlice 22 1 #[(0, Go.Operand.tmp 73)], type := 22, pos := "search.go:110", after := #[{ on := 9, ground := Go.Ground.data }], guard := none }) rfl (fun K hK => ?_) AllReadyH.nil
                  go_simp
                  refine hK.out _ _ (by first | with_reducible exact KEEPS.out _ hbX | with_reducible exact KEEPS.out _ hbA | with_reducible exact KEEPG.out _ _ hbA hg6) (fun hHeld3 => ?_)
                  clear hK K hHeld2
                  (try simp only [Act.put, List.setIfInBounds_toArray, List.set_cons_zero, List.set_cons_succ])
                  refine wpAnyH_ready (rs := [11]) (by kernel_rfl) (by simp) ?_
                  refine AllReadyH.cons (o := { dst := some 75, op := Go.Op.call { callee := Go.Callee.builtin Go.Builtin.append, args := #[Go.Operand.tmp 64, Go.Operand.tmp 74], argTypes := #[22, 22] }, type := 22, pos := "search.go:110", after := #[{ on := 0, ground := Go.Ground.data }, { on := 10, ground := Go.Ground.data }, { on := 8, ground := Go.Ground.chain }], guard := none }) rfl (fun K hK => ?_) AllReadyH.nil
                  (refine step_append_rep rfl hitS hitE_ _ (.tmp 64) (.tmp 74) rfl rfl hA rfl (ys := [(⟨x.unit, scoF (supF l x.unit (posQ Q))⟩ : Hit)]) kS kF kN (by decide) kB6 ?_; intro v6 w12 hown6 hg6 hat6; change World.grownBy _ w12 (Value.ownBlock (.slice Ao no co)) at hg6; have b12 := bwA.grown hg6 kB6 (fun j hj => HVB.out j hj); obtain ⟨A6, n6, c6, rfl, hn6⟩ := own_form hitS hown6)
                  refine hK.out _ _ (by first | with_reducible exact KEEPS.out _ hbX | with_reducible exact KEEPS.out _ hbA | with_reducible exact KEEPG.out _ _ hbA hg6) (fun hHeld4 => ?_)
                  clear hK K hHeld3
                  (try simp only [Act.put, List.setIfInBounds_toArray, List.set_cons_zero, List.set_cons_succ])
                  refine wpAnyH_take (i := 12) (oi := { dst := some 13, op := Go.Op.assign (Go.Operand.tmp 75), type := 22, pos := "search.go:110", after := #[{ on := 11, ground := Go.Ground.data }, { on := 11, ground := Go.Ground.chain }, { on := 0, ground := Go.Ground.phase }, { on := 1, ground := Go.Ground.phase }, { on := 2, ground := Go.Ground.phase }, { on := 3, ground := Go.Ground.phase }, { on := 4, ground := Go.Ground.phase }, { on := 5, ground := Go.Ground.phase }, { on := 6, ground := Go.Ground.phase }, { on := 7, ground := Go.Ground.phase }, { on := 8, ground := Go.Ground.phase }, { on := 9, ground := Go.Ground.phase }, { on := 10, ground := Go.Ground.phase }, { on := 11, ground := Go.Ground.phase }], guard := none }) (v := ?_) rfl (by kernel_rfl) (by kernel_rfl) (by kernel_rfl) (fun _ _ _ h => h) (Or.inl ⟨by rfl, ?_⟩) hHeld4 ?_
                  rotate_left
                  · intro w hSw
                    (try dsimp only at hSw)
                    go_simp
                    (try with_reducible rfl)
                  (try simp only [Act.put, List.setIfInBounds_toArray, List.set_cons_zero, List.set_cons_succ])
                  refine wpAnyH_done (by kernel_rfl) ?_ _
                  go_wp2
                  go_roundw
                  case rel => exact ⟨k + 1, _, by omega, by go_num, HY, by have := HOL.out; rw [List.length_append, List.length_singleton]; omega, hown6, b12⟩
                  case measure => simp [intOf]; omega
              · have hki : ¬ (k : Int) < (c.sheets.length : Int) := by omega
                have HX2 := Lib.hid (show hitsF c s (undB c) l Q c.sheets = os by rw [HSS.out, List.drop_of_length_le (by omega)]; simp [hitsF])
                have HSO := Lib.hid (sortHits_c os (.slice Ao no co) w6.heap.size wr hown (by have := HOL.out; omega))
                have hro := hown.own_lt
                clear HSS hown z0 z1 z2 zl
                go_wp2_with fail
                refine HSO.out.mono ?_
                rintro e w9 ⟨rfl, hown9, hg9⟩
                have b9 := HBX.out _ (bw.grown hg9 bw.size (fun j hj => (hro j hj).1))
                go_wp2
                go_ret2
                exact ⟨_, rfl, by rw [HE2.out, HX2.out]; exact hown9.base_le (by omega), HUP.out _ b9⟩
        · have HE := Lib.hid (show findE c s l q = 11 by unfold findE; rw [if_neg (by simp [h0, h1]), if_neg (by simp [h2]), if_pos (.inl h3)])
          have HE2 := Lib.hid (show findL c s (undB c) l q Q = [] by unfold findL; rw [HE.out]; rfl)
          have h3' : (buildE c s != 0) = true := by simp [h3]
          rw [HE.out, HE2.out]
          obtain ⟨A1, d1, rfl, -⟩ := id h.langs
          obtain ⟨A2, d2, rfl, -⟩ := id h.labels
          obtain ⟨A3, d3, rfl, -⟩ := id h.sheets
          obtain ⟨Aq, dq, rfl, -⟩ := id hq
          obtain ⟨Al, dl, rfl, -⟩ := id hl
          generalize buildE c s = z at *
          clear h0 h1 h2 h3 hh' h hq hl hQ hs h14 hV HEQ
          go_enter Tryz.func22, Tryz.ntmps22
          go_wp2_with fail
          refine (HC.out _ b1).mono ?_
          rintro e w1 ⟨rfl, hb1⟩
          have hbX := bnd_call hb0 hsO hb1
          go_wp2_with fail
          refine (HA.out _ (HUP.out _ hbX)).mono ?_
          rintro e w2 ⟨rfl, hb2⟩
          have hbX := bnd_call hbX hsO hb2
          obtain ⟨z0, z1, z2, zl⟩ := KC.out _ hbX
          go_wp2_with fail
          refine (HS.out _ (HUP.out _ hbX)).mono ?_
          rintro e w3 ⟨rfl, rfl⟩
          go_wp2_with fail
          refine (HBU.out _ (HUP.out _ hbX)).mono ?_
          rintro e w4 ⟨vn, rfl, hn4, hb4⟩
          have hbX := bnd_call hbX hsO hb4
          obtain ⟨An, nn, cn, rfl, -⟩ := own_form pstS hn4
          clear hn4
          go_wp2
          go_ret2
          exact ⟨_, rfl, OwnRep.nil_, HUP.out _ hbX⟩
    · have HE := Lib.hid (show findE c s l q = 1 by unfold findE; rw [if_pos (.inr h1)])
      have HE2 := Lib.hid (show findL c s (undB c) l q Q = [] by unfold findL; rw [HE.out]; rfl)
      have h1' : (askE q != 0) = true := by simp [h1]
      rw [HE.out, HE2.out]
      obtain ⟨A1, d1, rfl, -⟩ := id h.langs
      obtain ⟨A2, d2, rfl, -⟩ := id h.labels
      obtain ⟨A3, d3, rfl, -⟩ := id h.sheets
      obtain ⟨Aq, dq, rfl, -⟩ := id hq
      obtain ⟨Al, dl, rfl, -⟩ := id hl
      generalize askE q = z at *
      clear h0 h1 h hq hl hQ hs h14 hV HEQ HBU HS
      go_enter Tryz.func22, Tryz.ntmps22
      go_wp2_with fail
      refine (HC.out _ b1).mono ?_
      rintro e w1 ⟨rfl, hb1⟩
      have hbX := bnd_call hb0 hsO hb1
      go_wp2_with fail
      refine (HA.out _ (HUP.out _ hbX)).mono ?_
      rintro e w2 ⟨rfl, hb2⟩
      have hbX := bnd_call hbX hsO hb2
      go_wp2
      go_ret2
      exact ⟨_, rfl, OwnRep.nil_, HUP.out _ hbX⟩
  · have HE := Lib.hid (show findE c s l q = 1 by unfold findE; rw [if_pos (.inl h0)])
    have HE2 := Lib.hid (show findL c s (undB c) l q Q = [] by unfold findL; rw [HE.out]; rfl)
    have h0' : (catE c != 0) = true := by simp [h0]
    rw [HE.out, HE2.out]
    obtain ⟨A1, d1, rfl, -⟩ := id h.langs
    obtain ⟨A2, d2, rfl, -⟩ := id h.labels
    obtain ⟨A3, d3, rfl, -⟩ := id h.sheets
    obtain ⟨Aq, dq, rfl, -⟩ := id hq
    obtain ⟨Al, dl, rfl, -⟩ := id hl
    generalize catE c = z at *
    clear h0 h hq hl hQ hs h14 hV HEQ HBU HS HA
    go_enter Tryz.func22, Tryz.ntmps22
    go_wp2_with fail
    refine (HC.out _ b1).mono ?_
    rintro e w1 ⟨rfl, hb1⟩
    have hbX := bnd_call hb0 hsO hb1
    go_wp2
    go_ret2
    exact ⟨_, rfl, OwnRep.nil_, HUP.out _ hbX⟩
end Go.Proofs.YtngodakkdhdmjaaGreatDoor
