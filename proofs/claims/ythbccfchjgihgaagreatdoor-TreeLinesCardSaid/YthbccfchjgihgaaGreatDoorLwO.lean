/- TreeOnce returns true. -/
import Derived.Test.YthbccfchjgihgaaGreatDoorLwP
namespace Go.Proofs.YthbccfchjgihgaaGreatDoor
open Go.RowKit

theorem SlRep.part {α : Type} {k : Nat} {R : CRep α} {w : World} {F : Nat → Prop} {xs : List α} {b off n c : Nat} (h : SlRep k R w F xs (.slice (some ⟨b, off, none⟩) n c)) {i m : Nat} (hi : i + m ≤ xs.length) : SlRep k R w F ((xs.drop i).take m) (.slice (some ⟨b, off + i * k, none⟩) m (c - i)) := by
  obtain ⟨A', c', e, h1, h2, h3⟩ := h
  injection e with e1 e2 e3
  subst e1 e2 e3
  have hl : ((xs.drop i).take m).length = m := by rw [List.length_take, List.length_drop]; omega
  refine ⟨_, _, by rw [hl], by omega, by omega, fun j x hx => ?_⟩
  have hj := lt_of_at hx
  rw [List.getElem?_take, if_pos (by omega), List.getElem?_drop] at hx
  obtain ⟨b', off', cs, hA, hF, hr, hc⟩ := h3 (i + j) x hx
  injection hA with hA
  injection hA with hA1 hA2
  subst hA1 hA2
  refine ⟨b, off + i * k, cs, rfl, hF, hr, fun q u hu => ?_⟩
  have := hc q u hu
  rwa [show off + (i + j) * k + q = off + i * k + j * k + q by rw [Nat.add_mul]; omega] at this
theorem bel_zero {t : Tre} (h : orTopE t 0 ≠ 0) : belR t 0 = [] := by unfold belR; rw [if_pos h]
theorem orTop_right {t : Tre} (h : orTopE t 0 = 0) : rightT t = true := by
  unfold orTopE at h
  rw [if_pos rfl, known_nil] at h
  cases hr : rightT t
  · rw [hr] at h; cases h
  · rfl
theorem belR_mem {t : Tre} (hr : rightT t = true) {b : Brn} (hb : b ∈ t.brs) : belR t b.id = belT t b.id := by unfold belR; rw [if_neg (by rw [orTop_mem hr (.inr ⟨b, hb, rfl⟩)]; decide)]
/-- a place in the order -/
structure OnceAt (t : Tre) (all : List Int) (i : Nat) (c : Brn) (l : List Int) : Prop where
  mem : c ∈ t.brs
  idx : Lib.idxOf all c.id = (i : Int)
  par : c.parent = 0 ∨ (all.take i).contains c.parent = true
  len : i + l.length ≤ all.length
  eq : l = (all.drop i).take l.length
  bel : belR t c.id = l
  ok : orTopE t c.id = 0
  oth : ∀ (k : Nat) (u : Int), all[k]? = some u → ∃ d ∈ t.brs, d.id = u ∧ (pthF t.brs d.id).contains c.id = (decide (i ≤ k) && decide (k < i + l.length))
theorem all_len {t : Tre} (hr : rightT t = true) : (belT t 0).length = t.brs.length := by rw [(right_of hr).all_perm.length_eq, List.length_map]
theorem once_at {t : Tre} (hr : rightT t = true) {i : Nat} {u : Int} (hu : (belT t 0)[i]? = some u) : ∃ c, c.id = u ∧ OnceAt t (belT t 0) i c (belT t c.id) := by
  have T := right_of hr
  have hm : ∀ (k : Nat) (u : Int), (belT t 0)[k]? = some u → ∃ d ∈ t.brs, d.id = u := fun k u h => by
    have := T.all_mem.1 (List.mem_of_getElem? h)
    simpa using this
  obtain ⟨c, hc, rfl⟩ := hm i u hu
  obtain ⟨h1, h2, h3⟩ := T.at_place hc hu
  refine ⟨c, rfl, hc, idx_at T.all_nodup hu, ?_, h3, ?_, belR_mem hr hc, orTop_mem hr (.inr ⟨c, hc, rfl⟩), fun k v hv => ?_⟩
  · by_cases h0 : c.parent = 0
    · exact .inl h0
    · exact .inr (by simpa using h2 h0)
  · rw [h1]; simp
  · obtain ⟨d, hd, rfl⟩ := hm k v hv
    refine ⟨d, hd, rfl, ?_⟩
    rw [Bool.eq_iff_iff, Bool.and_eq_true, decide_eq_true_eq, decide_eq_true_eq, List.contains_iff_mem]
    unfold pthF
    rw [List.mem_reverse, T.bel_iff hc hd]
    have hkl := lt_of_at hv
    constructor
    · intro hm
      obtain ⟨j, hj⟩ := List.getElem?_of_mem hm
      have hjl := lt_of_at hj
      have e : (belT t 0)[i + j]? = some d.id := by rw [← List.getElem?_drop, h1, List.getElem?_append_left hjl]; exact hj
      have := (List.getElem?_inj hkl T.all_nodup).1 (hv.trans e.symm)
      omega
    · rintro ⟨q1, q2⟩
      have e : (belT t c.id)[k - i]? = some d.id := by
        have e2 : ((belT t 0).drop i)[k - i]? = some d.id := by rw [List.getElem?_drop, show i + (k - i) = k by omega]; exact hv
        rwa [h1, List.getElem?_append_left (by omega)] at e2
      exact List.mem_of_getElem? e
set_option maxRecDepth 100000 in
set_option maxHeartbeats 8000000 in
theorem once_law (t : Tre) (vr vb : Value) (w : World) (B : Nat) (hB : B ≤ w.heap.size) (h : TreRep w B t vr vb) (hV : VarOk w) :
    Calls Tryz.prog 8 #[treV vr vb] w fun e w' => e = .returned (.bool true) ∧ Below w.heap.size w w' := by
  have b1 := tre_new w vr vb
  have hs1 : w.heap.size + 1 ≤ (w.alloc (treC vr vb)).heap.size := by simp
  have HC := Lib.hid (show LawC t vr vb w B from ⟨hB, h, hV⟩)
  have KC := Lib.hid (fun (W : World) (hW : Below (w.heap.size + 1) (w.alloc (treC vr vb)) W) => treW_at hW)
  have HUP := Lib.hid (fun (W : World) (hW : Below (w.heap.size + 1) (w.alloc (treC vr vb)) W) => b1.trans (hW.mono (Nat.le_succ _)))
  obtain ⟨Ar, cr, rfl, -⟩ := id h.tops
  obtain ⟨A, ca, rfl, -⟩ := id h.brs
  have bX : Below (w.heap.size + 1) (w.alloc (treC (.slice Ar t.roots.length cr) (.slice A t.brs.length ca))) (w.alloc (treC (.slice Ar t.roots.length cr) (.slice A t.brs.length ca))) := Below.refl _ _
  clear h hV
  go_enter Tryz.func8, Tryz.ntmps8
  go_wp2_with fail
  refine (HC.out.awake (HUP.out _ bX)).mono ?_
  rintro e w1 ⟨rfl, hb1⟩
  have bX := bnd_call bX hs1 hb1
  obtain ⟨z0, z1, zl⟩ := KC.out _ bX
  clear hb1
  go_wp2_with fail
  refine (HC.out.few (HUP.out _ bX)).mono ?_
  rintro e w2 ⟨rfl, hb2⟩
  have bX := bnd_call bX hs1 hb2
  clear z0 z1 zl hb2
  cases hF : fewT t
  · go_wp2_with fail
    refine (HC.out.awake (HUP.out _ bX)).mono ?_
    rintro e w3 ⟨rfl, hb3⟩
    have bX := bnd_call bX hs1 hb3
    go_wp2
    go_ret
    exact ⟨rfl, HUP.out _ bX⟩
  · have HCP := Lib.hid (fun (W : World) (hW : Below w.heap.size w W) => HC.out.cp hF hW)
    have HZ := Lib.hid (few_size hF)
    clear hF
    have HBL := Lib.hid (fun (u : Int) (x y : Value) (W : World) (hW : Below w.heap.size w W) (hr : TreRep W W.heap.size t x y) => Below_c t HZ.out u x y W _ (Nat.le_refl _) hr (HC.out.at_ hW).2.2)
    have HB0 := Lib.hid (fun (x y : Value) (W : World) (hW : Below w.heap.size w W) (hr : TreRep W W.heap.size t x y) => HBL.out 0 x y W hW hr)
    obtain ⟨ce, hce⟩ : ∃ c, orTopE t 0 = c := ⟨_, rfl⟩
    obtain ⟨all, hall⟩ : ∃ l, belR t 0 = l := ⟨_, rfl⟩
    rw [hce, hall] at HB0
    have HE0 := Lib.hid (fun (h0 : ce ≠ 0) => (by rw [← hall]; exact bel_zero (by rw [hce]; exact h0) : all = []))
    have HE1 := Lib.hid (fun (h0 : ce = 0) => (by
      have hr := orTop_right (hce.trans h0)
      exact ⟨hr, by rw [← hall]; unfold belR; rw [if_neg (by rw [hce]; simpa using h0)]⟩ : rightT t = true ∧ all = belT t 0))
    clear hce hall
    obtain ⟨z0, z1, zl⟩ := KC.out _ bX
    go_wp2_with fail
    refine (HCP.out _ (HUP.out _ bX)).mono ?_
    rintro e w3 ⟨x3, y3, rfl, hr3, hb3⟩
    have bX := bnd_call bX hs1 hb3
    clear z0 z1 zl hb3
    go_wp2_with fail
    refine (HB0.out _ _ _ (HUP.out _ bX) hr3).mono ?_
    rintro e w4 ⟨va, rfl, hown4, hb4⟩
    have bX := bnd_call bX hs1 hb4
    have ha4 := hown4.toSl intS
    obtain ⟨z0, z1, zl⟩ := KC.out _ bX
    clear hr3 hb4 HB0 hown4
    by_cases h0 : ce = 0
    · obtain ⟨hr, hal⟩ := HE1.out h0
      have T := right_of hr
      have hlen : all.length = t.brs.length := by rw [hal, all_len hr]
      have HON := Lib.hid (fun (i : Nat) (u : Int) (hu : all[i]? = some u) => (by rw [hal] at hu ⊢; exact once_at hr hu : ∃ c, c.id = u ∧ OnceAt t all i c (belT t c.id)))
      have HFI := Lib.hid (fun (c : Brn) (hc : c ∈ t.brs) (W : World) (hW : Below w.heap.size w W) => (by
        have := find_c t c.id (.slice Ar t.roots.length cr) (.slice A t.brs.length ca) W B (HC.out.at_ hW).1 (HC.out.at_ hW).2.1
        rwa [findU_mem T hc] at this : Calls Tryz.prog 18 #[treV (.slice Ar t.roots.length cr) (.slice A t.brs.length ca), .int .i64 c.id] W fun e w' => e = .returned (.tuple #[untV c, .bool true]) ∧ Below W.heap.size W w'))
      have HPA := Lib.hid (fun (c : Brn) (hc : c ∈ t.brs) (x y : Value) (W : World) (hW : Below w.heap.size w W) (hr' : TreRep W W.heap.size t x y) => (by
        have := Path_c t HZ.out c.id x y W _ (Nat.le_refl _) hr' (HC.out.at_ hW).2.2
        rwa [pathR_mem hr hc, known_mem hr hc] at this : Calls Tryz.prog 25 #[treV x y, .int .i64 c.id] W fun e w' => ∃ v', e = .returned (.tuple #[v', .int .i64 0]) ∧ OwnRep 1 (flat intEnc) 3 W.heap.size w' (pthF t.brs c.id) v' ∧ Below W.heap.size W w'))
      have hn : all.length ≤ 100000 := by rw [hlen]; exact HZ.out.brs
      clear HE0 HE1
      subst h0
      clear hr hal T
      obtain ⟨Aa, cap, rfl, hcap1, hcap2, -⟩ := id ha4
      have hle : ((all.length : Int) != (t.brs.length : Int)) = false := by rw [hlen]; simp
      clear hlen
      have HA4 := Lib.hid ha4
      have HUW := Lib.hid (fun (W : World) (hW : Below w4.heap.size w4 W) => (by
        have h1 := bX.trans (hW.mono (by have := bX.size; simp at this; omega))
        exact ⟨HUP.out _ h1, KC.out _ h1⟩ : Below w.heap.size w W ∧ W.cell? ⟨w.heap.size, 0, none⟩ = some (.slice Ar t.roots.length cr) ∧ W.cell? ⟨w.heap.size, 1, none⟩ = some (.slice A t.brs.length ca) ∧ w.heap.size < W.heap.size))
      clear ha4
      go_wp2
      go_loopw [42] (fun i wr => ∃ k : Nat, k ≤ all.length ∧ i = .int .i64 k ∧ Below w4.heap.size w4 wr) (fun i _ => all.length - (intOf i).toNat)
      case atStart => exact ⟨0, Nat.zero_le _, rfl, Below.refl _ _⟩
      case round =>
        clear z0 z1 zl
        obtain ⟨i, hi, rfl, bi⟩ := hrel
        obtain ⟨wo, rfl⟩ : ∃ wo : World, wo = wr := ⟨_, rfl⟩
        obtain ⟨bw, z0, z1, zl⟩ := HUW.out _ bi
        by_cases hlt : i < all.length
        · obtain ⟨u, hu⟩ := get_at all hlt
          obtain ⟨c, hcu, hO⟩ := HON.out i u hu
          subst hcu
          obtain ⟨ba, oa, rfl, hba, q0⟩ := Ints.at_ (HA4.out.below intS bi) hu
          have hba' : ba < wo.heap.size := Nat.lt_of_lt_of_le hba bi.size
          obtain ⟨l, hl⟩ : ∃ l, belT t c.id = l := ⟨_, rfl⟩
          rw [hl] at hO
          have HO := Lib.hid hO
          have HFC := Lib.hid (HFI.out c hO.mem)
          have hil := hO.len
          have hii : (i : Int) < (all.length : Int) := by omega
          have hwi : IntKind.i64.wrap ((i : Int) + 1) = (i : Int) + 1 := IntWalk.i64_in _ (by omega)
          clear hu hl hO hba
          go_wp2_with fail
          refine (HFC.out _ bw).mono ?_
          rintro e w5 ⟨rfl, hb5⟩
          have oU : Below w5.heap.size w5 (w5.alloc (untC c)) := (Below.refl _ _).alloc (Nat.le_refl _) _
          have hb5 := hb5.trans (oU.mono hb5.size)
          have bi := bnd_call bi (Nat.le_refl _) hb5
          obtain ⟨u0, u1, u2, u3, u4, ul⟩ := unt_cells (heap_newT w5 (untC c))
          have bq : Below w4.heap.size w4 (w5.alloc (untC c)) := bi
          have HIX := Lib.hid (fun (W : World) (hW : W.heap = (w5.alloc (untC c)).heap) => (by
            have := idxI_c all c.id _ W _ ((HA4.out.below intS bq).frame intS (fun b' _ => by rw [hW]))
            rwa [HO.out.idx] at this : Calls Tryz.prog 39 #[.slice (some ⟨ba, oa, none⟩) all.length cap, .int .i64 c.id] W fun e w' => e = .returned (.int .i64 i) ∧ w' = W))
          have HHX := Lib.hid (fun (W : World) (hW : W.heap = (w5.alloc (untC c)).heap) => (by
            exact hasI_c (all.take i) c.parent _ W _ (((HA4.out.below intS bq).take_ (Nat.le_of_lt hlt)).frame intS (fun b' _ => by rw [hW])) : Calls Tryz.prog 38 #[.slice (some ⟨ba, oa, none⟩) i cap, .int .i64 c.parent] W fun e w' => e = .returned (.bool ((all.take i).contains c.parent)) ∧ w' = W))
          have hic : (i : Int) ≤ (cap : Int) := by omega
          have hc0 : ¬ cap = 0 := by omega
          clear hb5 oU z0 z1 zl bw q0
          go_wp2
          go_cut [75] (fun v W => v = .bool false ∧ Below w4.heap.size w4 W)
          case first =>
            by_cases hp : c.parent = 0
            · have hp1 : (c.parent != 0) = false := by simp [hp]
              clear hp
              go_quiet ((go_at_call 39; (with_reducible refine (HIX.out _ (by simp)).mono ?_); rintro e w1 ⟨rfl, rfl⟩; exact ⟨rfl, _, rfl⟩))
              go_wp2_with fail
              go_meet
              exact ⟨rfl, below_drewN bq _⟩
            · have hp1 : (c.parent != 0) = true := by simpa using hp
              have hct : (all.take i).contains c.parent = true := by
                rcases HO.out.par with h1 | h1
                · exact absurd h1 hp
                · exact h1
              rw [hct] at HHX
              clear hp hct
              go_quiet (first
                | (go_at_call 39; (with_reducible refine (HIX.out _ (by simp)).mono ?_); rintro e w1 ⟨rfl, rfl⟩; exact ⟨rfl, _, rfl⟩)
                | (go_at_call 38; (with_reducible refine (HHX.out _ (by simp)).mono ?_); rintro e w1 ⟨rfl, rfl⟩; exact ⟨rfl, _, rfl⟩))
              go_wp2_with fail
              go_meet
              exact ⟨rfl, below_drewN bq _⟩
          case rest =>
            obtain ⟨rfl, bi⟩ := hcut
            clear u0 u1 u2 u3 u4 ul bq HIX HHX
            obtain ⟨bw, z0, z1, zl⟩ := HUW.out _ bi
            have HBC := Lib.hid (fun (x y : Value) (W : World) (hW : Below w.heap.size w W) (hr : TreRep W W.heap.size t x y) => (by
              have := HBL.out c.id x y W hW hr
              rwa [HO.out.bel, HO.out.ok] at this : Calls Tryz.prog 27 #[treV x y, .int .i64 c.id] W fun e w' => ∃ v', e = .returned (.tuple #[v', .int .i64 0]) ∧ OwnRep 1 (flat intEnc) 3 W.heap.size w' l v' ∧ Below W.heap.size W w'))
            go_wp2_with fail
            refine (HCP.out _ bw).mono ?_
            rintro e w6 ⟨x6, y6, rfl, hr6, hb6⟩
            have bi := bnd_call bi (Nat.le_refl _) hb6
            clear z0 z1 zl bw hb6
            obtain ⟨bw, z0, z1, zl⟩ := HUW.out _ bi
            go_wp2_with fail
            refine (HBC.out _ _ _ bw hr6).mono ?_
            rintro e w7 ⟨vl, rfl, hown7, hb7⟩
            have bi := bnd_call bi (Nat.le_refl _) hb7
            have hl7 := hown7.toSl intS
            clear z0 z1 zl bw hb7 hr6 hown7 HBC
            obtain ⟨bw, z0, z1, zl⟩ := HUW.out _ bi
            have hpt := (HA4.out.below intS bi).part (i := i) (m := l.length) hil
            rw [Nat.mul_one] at hpt
            obtain ⟨Al, cl, rfl, -⟩ := id hl7
            have HEQ := Lib.hid (by
              have := eqInts_c l ((all.drop i).take l.length) _ _ w7 _ _ hl7 hpt
              rwa [decide_eq_true HO.out.eq] at this : Calls Tryz.prog 24 #[.slice Al l.length cl, .slice (some ⟨ba, oa + i, none⟩) l.length (cap - i)] w7 fun e w' => e = .returned (.bool true) ∧ Below w7.heap.size w7 w')
            have hwl : IntKind.i64.wrap ((i : Int) + (l.length : Int)) = (i : Int) + (l.length : Int) := IntWalk.i64_in _ (by omega)
            have hs1' : ¬ (all.length : Int) < (i : Int) + (l.length : Int) := by omega
            have hs2' : (i : Int) ≤ (i : Int) + (l.length : Int) := by omega
            have hs3' : (i : Int) + (l.length : Int) ≤ (cap : Int) := by omega
            have hci : ¬ cap = i := by omega
            clear hpt hl7
            go_wp2_with fail
            refine HEQ.out.mono ?_
            rintro e w8 ⟨rfl, hb8⟩
            have bi := bnd_call bi (Nat.le_refl _) hb8
            clear hb8 HEQ z0 z1 zl bw hs1' hs2' hs3' hci
            go_wp2
            go_loopw [108] (fun q wr => ∃ k : Nat, k ≤ all.length ∧ q = .int .i64 k ∧ Below w4.heap.size w4 wr) (fun q _ => all.length - (intOf q).toNat)
            case atStart => exact ⟨0, Nat.zero_le _, rfl, bi⟩
            case round =>
              clear bi
              obtain ⟨k, hk, rfl, bi⟩ := hrel
              obtain ⟨bw, z0, z1, zl⟩ := HUW.out _ bi
              by_cases hkl : k < all.length
              · obtain ⟨v, hv⟩ := get_at all hkl
                obtain ⟨d, hd, hdv, hcd⟩ := HO.out.oth k v hv
                subst hdv
                obtain ⟨q0, hbaw⟩ := (by
                  obtain ⟨_, _, e9, hb9, q0⟩ := Ints.at_ (HA4.out.below intS bi) hv
                  cases e9
                  exact ⟨q0, Nat.lt_of_lt_of_le hb9 bi.size⟩ : wr.cell? ⟨ba, oa + k, none⟩ = some (.int .i64 d.id) ∧ ba < wr.heap.size)
                have hkk : (k : Int) < (all.length : Int) := by omega
                have hwk : IntKind.i64.wrap ((k : Int) + 1) = (k : Int) + 1 := IntWalk.i64_in _ (by omega)
                have HPD := Lib.hid (HPA.out d hd)
                have HCD := Lib.hid hcd
                clear hv hd hcd
                go_wp2_with fail
                refine (HCP.out _ bw).mono ?_
                rintro e w9 ⟨x9, y9, rfl, hr9, hb9⟩
                have bi := bnd_call bi (Nat.le_refl _) hb9
                clear z0 z1 zl bw hb9 q0
                obtain ⟨bw, z0, z1, zl⟩ := HUW.out _ bi
                go_wp2_with fail
                refine (HPD.out _ _ _ bw hr9).mono ?_
                rintro e wA ⟨vp, rfl, hownP, hbA⟩
                have bi := bnd_call bi (Nat.le_refl _) hbA
                have hpA := hownP.toSl intS
                have HHC := Lib.hid (hasI_c (pthF t.brs d.id) c.id vp wA _ hpA)
                rw [HCD.out] at HHC
                obtain ⟨Ap, cp, rfl, -⟩ := id hpA
                clear z0 z1 zl bw hbA hr9 hownP hpA
                go_wp2_with fail
                refine HHC.out.mono ?_
                rintro e wB ⟨rfl, hwB⟩
                subst hwB
                clear HHC
                by_cases h1 : i ≤ k
                · have h1' : (i : Int) ≤ (k : Int) := by omega
                  by_cases h2 : k < i + l.length
                  · have h2' : (k : Int) < (i : Int) + (l.length : Int) := by omega
                    rw [decide_eq_true h1, decide_eq_true h2]
                    clear h1 h2
                    go_wp2
                    go_roundw
                    case rel => exact ⟨k + 1, by omega, by go_num, bi⟩
                    case measure => simp [intOf]; omega
                  · have h2' : ¬ (k : Int) < (i : Int) + (l.length : Int) := by omega
                    rw [decide_eq_true h1, decide_eq_false h2]
                    clear h1 h2
                    go_wp2
                    go_roundw
                    case rel => exact ⟨k + 1, by omega, by go_num, bi⟩
                    case measure => simp [intOf]; omega
                · have h1' : ¬ (i : Int) ≤ (k : Int) := by omega
                  rw [decide_eq_false h1]
                  clear h1
                  go_wp2
                  go_roundw
                  case rel => exact ⟨k + 1, by omega, by go_num, bi⟩
                  case measure => simp [intOf]; omega
              · have hkk : ¬ (k : Int) < (all.length : Int) := by omega
                go_wp2
                go_roundw
                case rel => exact ⟨i + 1, by omega, by go_num, bi⟩
                case measure => simp [intOf]; omega
        · have hii : ¬ (i : Int) < (all.length : Int) := by omega
          go_wp2
          go_ret
          exact ⟨rfl, bw⟩
    · have hn : (ce != 0) = true := by simpa using h0
      have hnil := HE0.out h0
      subst hnil
      obtain ⟨Aa, cap, rfl, -⟩ := id ha4
      clear h0
      go_wp2
      go_ret
      exact ⟨rfl, HUP.out _ bX⟩
end Go.Proofs.YthbccfchjgihgaaGreatDoor
