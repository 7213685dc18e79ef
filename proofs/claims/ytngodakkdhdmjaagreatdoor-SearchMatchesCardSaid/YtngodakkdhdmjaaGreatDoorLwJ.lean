/- SearchMatches returns true. -/
import Derived.Test.YtngodakkdhdmjaaGreatDoorPcq
import Derived.Test.YtngodakkdhdmjaaGreatDoorBas
namespace Go.Proofs.YtngodakkdhdmjaaGreatDoor
open Go.RowKit

/-- the units of some hits, as a map reads; those that are not among some sheets -/
def fM (h : List Hit) (u : Int) : Option Bool := if u ∈ h.map Hit.unit then some true else none
theorem fM_nil : fM [] = fun _ => none := by funext u; simp [fM]
theorem fM_snoc (h : List Hit) (x : Hit) : upd (fM h) x.unit true = fM (h ++ [x]) := by
  funext u
  unfold upd fM
  by_cases hu : u = x.unit
  · subst hu
    simp
  · rw [if_neg hu]
    have : u ∈ (h ++ [x]).map Hit.unit ↔ u ∈ h.map Hit.unit := by simp [hu]
    simp only [this]
def gM (h : List Hit) (xs : List Sheet) (u : Int) : Option Bool := if u ∈ h.map Hit.unit ∧ u ∉ xs.map Sheet.unit then some true else none
theorem gM_nil (h : List Hit) : gM h [] = fM h := by funext u; simp [gM, fM]
theorem gM_snoc (h : List Hit) (xs : List Sheet) (x : Sheet) : del (gM h xs) x.unit = gM h (xs ++ [x]) := by
  funext u
  unfold del gM
  by_cases hu : u = x.unit
  · subst hu
    simp
  · rw [if_neg hu]
    have : u ∈ (xs ++ [x]).map Sheet.unit ↔ u ∈ xs.map Sheet.unit := by simp [hu]
    simp only [this]
theorem intK6 : KeyKind Tryz.prog 3 intV := int_kind Tryz.underlying3
theorem look_b {w : World} {mb : Nat} {f : Int → Option Bool} (h : MapF w mb intV Value.bool f) (u : Int) : (Instr.lookup 54 (.map (some mb)) (.int .i64 u) false).run Tryz.prog w = .ok (.bool ((f u).getD false)) w := by
  have hz : (zeroValue 4).run Tryz.prog w = .ok (.bool false) w := Tryz.zeroValue4 w
  have := run_lookup_at intK6 Tryz.underlying54 hz h u false
  rw [this]
  cases f u <;> rfl
theorem mget_filter {ν : Type} (k k' : Int) : ∀ (es : List (Int × ν × Nat)), mget (es.filter fun x => !decide (x.1 = k)) k' = if k' = k then none else mget es k'
  | [] => by simp [mget]
  | e :: es => by
    have ih := mget_filter k k' es
    by_cases he : e.1 = k
    · rw [List.filter_cons_of_neg (by simp [he]), ih]
      by_cases hk : k' = k
      · rw [if_pos hk, if_pos hk]
      · rw [if_neg hk, if_neg hk]
        unfold mget
        rw [List.find?_cons_of_neg (by simp; intro e2; exact hk (by rw [← e2, he]))]
    · rw [List.filter_cons_of_pos (by simp [he])]
      by_cases h2 : e.1 = k'
      · rw [if_neg (by intro e2; exact he (by rw [h2, e2]))]
        unfold mget
        rw [List.find?_cons_of_pos (by simp [h2]), List.find?_cons_of_pos (by simp [h2])]
      · have e1 : mget (e :: es.filter fun x => !decide (x.1 = k)) k' = mget (es.filter fun x => !decide (x.1 = k)) k' := by
          unfold mget
          rw [List.find?_cons_of_neg (by simp [h2])]
        have e2 : mget (e :: es) k' = mget es k' := by
          unfold mget
          rw [List.find?_cons_of_neg (by simp [h2])]
        rw [e1, e2, ih]
theorem wpList_delF {P : Program} {ops : Array Oper} {rest : List Oper} {o : Oper} {a : Act} {Q : Exit → Act → World → Prop} {w : World} {b : Nat} {ν : Type} {venc : ν → Value} (hg : o.guard = none) (m x : Operand) {t kt et : TypeId} (hop : o.op = Op.call { callee := Callee.builtin Builtin.delete, args := #[m, x], argTypes := #[t, kt] }) (hK : KeyKind P kt intV) (ht : P.underlying t = some (.map kt et))
    {f : Int → Option ν} (h : MapF w b intV venc f) (hm : a.eval m = .map (some b)) (k : Int) (hx : a.eval x = intV k)
    (hN : ∀ w', MapF w' b intV venc (del f k) → w.grownBy w' (some b) → wpList P ops Q rest (a.put o.dst (.tuple #[])) w') : wpList P ops Q (o :: rest) a w := by
  obtain ⟨es, clock, h1, h2⟩ := h
  refine wpList_del hg m x hop hK ht h1 hm k hx fun w' h3 h4 => hN w' ⟨_, clock, h3, fun k' => ?_⟩ h4
  rw [mget_filter, h2]
  rfl
set_option maxRecDepth 100000 in
set_option maxHeartbeats 8000000 in
theorem matches_a (c : Cat) (s : ByteArray) (c1 c2 c3 vq : Value) (w : World) (B : Nat) (hB : B ≤ w.heap.size) (h : CatRep w B c c1 c2 c3) (hV : VarOk w) (hsz : 10 < s.size) :
    Calls Tryz.prog 4 #[.agg #[c1, c2, c3], .string s, vq] w fun e w' => e = .returned (.bool true) ∧ Below w.heap.size w w' := by
  have b0 : Below w.heap.size w (w.alloc (catC c1 c2 c3)) := (Below.refl _ _).alloc (Nat.le_refl _) _
  have HA := Lib.hid (awake6_c (w.alloc (catC c1 c2 c3)) (hV.below b0))
  have HFW := Lib.hid (fun (v : Value) (W : World) (hv : SlRep 3 catR W (fun b => b < W.heap.size) [c] v) => few5_c [c] v W W.heap.size (Nat.le_refl _) hv)
  have hb0 : Below (w.heap.size + 1) (w.alloc (catC c1 c2 c3)) (w.alloc (catC c1 c2 c3)) := Below.refl _ _
  have KC := Lib.hid (fun (W : World) (hW : Below (w.heap.size + 1) (w.alloc (catC c1 c2 c3)) W) => catW_at hW)
  have HONE := Lib.hid (fun (W : World) (hW : Below w.heap.size w W) => cat_one hB h (W := W.alloc (catC c1 c2 c3)) (g := W.heap.size) (hW.alloc hW.size _) (heap_newS W _))
  have hl' : decide ((10 : Int) < (s.size : Int)) = true := decide_eq_true (by omega)
  obtain ⟨A1, ca1, rfl, -⟩ := id h.langs
  obtain ⟨A2, ca2, rfl, -⟩ := id h.labels
  obtain ⟨A3, ca3, rfl, -⟩ := id h.sheets
  clear hsz h hV
  go_enter Tryz.func4, Tryz.ntmps4
  go_wp2_with fail
  refine HA.out.mono ?_
  rintro e w1 ⟨rfl, b1⟩
  have bX := bnd_call hb0 (by simp) b1
  have bW := b0.trans (bX.mono (Nat.le_succ _))
  obtain ⟨z0, z1, z2, zl⟩ := KC.out _ bX
  have bs := bW.size
  go_wp2_with fail
  refine (HFW.out _ _ (HONE.out _ bW)).mono ?_
  rintro e w2 ⟨⟨ok, rfl, -⟩, hb2⟩
  have bF := (bW.alloc bs _).trans (hb2.mono (by simp; omega))
  cases ok
  all_goals
    go_wp2
    go_ret
    exact ⟨rfl, bF⟩
set_option maxRecDepth 100000 in
set_option maxHeartbeats 16000000 in
theorem matches_b (c : Cat) (s : ByteArray) (q : List Ask) (c1 c2 c3 vq : Value) (w : World) (B : Nat) (hB : B ≤ w.heap.size) (h : CatRep w B c c1 c2 c3) (hq : Asks w B q vq) (hV : VarOk w) (hsz : ¬ 10 < s.size) :
    Calls Tryz.prog 4 #[.agg #[c1, c2, c3], .string s, vq] w fun e w' => e = .returned (.bool true) ∧ Below w.heap.size w w' := by
  have b0 : Below w.heap.size w (w.alloc (catC c1 c2 c3)) := (Below.refl _ _).alloc (Nat.le_refl _) _
  have HA := Lib.hid (awake6_c (w.alloc (catC c1 c2 c3)) (hV.below b0))
  have HVR := Lib.hid (fun (W : World) (hW : Below w.heap.size w W) => hV.below hW)
  have HFW := Lib.hid (fun (v : Value) (W : World) (hv : SlRep 3 catR W (fun b => b < W.heap.size) [c] v) => few5_c [c] v W W.heap.size (Nat.le_refl _) hv)
  have HFQ := Lib.hid (fun (W : World) (hW : Below w.heap.size w W) => rfewQ_c q vq W B (hq.below askS (hW.mono hB)))
  have HCC := Lib.hid (fun (hF : FewOk c) (W : World) (hW : Below w.heap.size w W) => rcopy_c c c1 c2 c3 W B (Nat.le_trans hB hW.size) (h.below (hW.mono hB)) hF)
  have HCQ := Lib.hid (fun (hn : q.length ≤ 100000) (W : World) (hW : Below w.heap.size w W) => cloneA_c q vq W B (Nat.le_trans hB hW.size) (hq.below askS (hW.mono hB)) hn)
  have HBD := Lib.hid (fun (v1 v2 v3 : Value) (W : World) (hr : CatRep W W.heap.size c v1 v2 v3) => iBuild_c c s v1 v2 v3 W W.heap.size (Nat.le_refl _) hr)
  have hb0 : Below (w.heap.size + 1) (w.alloc (catC c1 c2 c3)) (w.alloc (catC c1 c2 c3)) := Below.refl _ _
  have KC := Lib.hid (fun (W : World) (hW : Below (w.heap.size + 1) (w.alloc (catC c1 c2 c3)) W) => catW_at hW)
  have HUP := Lib.hid (fun (W : World) (hW : Below (w.heap.size + 1) (w.alloc (catC c1 c2 c3)) W) => b0.trans (hW.mono (Nat.le_succ _)))
  have hsO : w.heap.size + 1 ≤ (w.alloc (catC c1 c2 c3)).heap.size := by simp
  have HONE := Lib.hid (fun (W : World) (hW : Below w.heap.size w W) => cat_one hB h (W := W.alloc (catC c1 c2 c3)) (g := W.heap.size) (hW.alloc hW.size _) (heap_newS W _))
  have hl' : decide ((10 : Int) < (s.size : Int)) = false := decide_eq_false (by omega)
  obtain ⟨A1, ca1, rfl, -⟩ := id h.langs
  obtain ⟨A2, ca2, rfl, -⟩ := id h.labels
  obtain ⟨A3, ca3, rfl, hd1, hd2, -⟩ := id h.sheets
  obtain ⟨Aq, cq, rfl, -⟩ := id hq
  have HSH := Lib.hid (fun (k : Nat) (x : Sheet) (hx : c.sheets[k]? = some x) (W : World) (hW : Below w.heap.size w W) => Sheets.at_ (h.sheets.below shtS (hW.mono hB)) hx)
  clear hsz h hV hq
  go_enter Tryz.func4, Tryz.ntmps4
  go_wp2_with fail
  refine HA.out.mono ?_
  rintro e w1 ⟨rfl, b1⟩
  have bX := bnd_call hb0 hsO b1
  have bW := HUP.out _ bX
  obtain ⟨z0, z1, z2, zl⟩ := KC.out _ bX
  have bs := bW.size
  go_wp2_with fail
  refine (HFW.out _ _ (HONE.out _ bW)).mono ?_
  rintro e w2 ⟨⟨ok, rfl, hfew⟩, hb2⟩
  have b2 : Below w1.heap.size w1 (w1.alloc (catC (.slice A1 c.langs.length ca1) (.slice A2 c.labels.length ca2) (.slice A3 c.sheets.length ca3))) := (Below.refl _ _).alloc (Nat.le_refl _) _
  have bX := bnd_call bX hsO (b2.trans (hb2.mono b2.size))
  have bW := HUP.out _ bX
  clear z0 z1 z2 zl b1 b2 hb2 bs
  cases ok
  · go_wp2
    go_ret
    exact ⟨rfl, bW⟩
  · have hF := hfew rfl c (by simp)
    clear hfew
    have HFX := Lib.hid (HFQ.out _ bW)
    cases hfq : fewQ q
    · rw [hfq] at HFX
      go_wp2_with fail
      refine HFX.out.mono ?_
      rintro e w3 ⟨rfl, rfl⟩
      go_wp2
      go_ret
      exact ⟨rfl, bW⟩
    · rw [hfq] at HFX
      ·
        obtain ⟨hq33, hq70⟩ := fewQ_iff.1 hfq
        obtain ⟨Q, hQ⟩ := tree_any q
        have hq70 : ∀ a ∈ q, a.text.size ≤ 1000000 := fun a ha => Nat.le_trans (hq70 a ha) (by omega)
        have HFI := Lib.hid (fun (v1 v2 v3 vl vq' : Value) (W : World) (hW : Below w.heap.size w W) (hr : CatRep W W.heap.size c v1 v2 v3) (hl : Posts W W.heap.size (buildF c s) vl) (hq' : Asks W W.heap.size q vq') => sfind_c c s (buildF c s) q Q v1 v2 v3 vl vq' W W.heap.size (Nat.le_refl _) hr hl hq' hQ hq70 (fun h0 => few14 hF h0) (HVR.out W hW))
        have hlen : (buildF c s).length ≤ 65536 := by
          by_cases he : buildE c s = 0
          · exact (chk_words (build_right he)).1
          · rw [build_none he]; simp
        have HCL := Lib.hid (fun (vl : Value) (W : World) (hl : Posts W W.heap.size (buildF c s) vl) => clonePosts_c (buildF c s) vl W W.heap.size (Nat.le_refl _) hl (by omega))
        have HSP := Lib.hid (fun (hE : findE c s (buildF c s) q = 0) (u : Int) (vl vq' : Value) (W : World) (hW : Below w.heap.size w W) (hl : Posts W W.heap.size (buildF c s) vl) (hq' : Asks W W.heap.size q vq') => (by
          obtain ⟨e0, e1, -, e3, -⟩ := find_l hE
          have hc := build_right e3
          have hp : posG q 0 = posQ Q := by rw [← (hQ e1).2]; exact posG_is (hQ e1).1
          have := Support_c (buildF c s) u q vl vq' W W.heap.size (Nat.le_refl _) hl hq' (chk_words hc).2 hq70 (HVR.out W hW)
          have hs0 : suppE (buildF c s) q = 0 := by unfold suppE; rw [if_neg (by simp [hc, e1])]
          have hsl : suppL (buildF c s) u q = supF (buildF c s) u (posQ Q) := by unfold suppL; rw [if_pos hs0, hp]
          rw [hs0, hsl] at this
          exact this : Calls Tryz.prog 24 #[vl, .int .i64 u, vq'] W fun e w' => ∃ v', e = .returned (.tuple #[v', .int .i64 0]) ∧ OwnRep 4 (flat Post.enc) 36 W.heap.size w' (supF (buildF c s) u (posQ Q)) v' ∧ Below W.heap.size W w'))
        have HSCO := Lib.hid (fun (hE : findE c s (buildF c s) q = 0) (x : Hit) (hx : x ∈ findL c s (undB c) (buildF c s) q Q) => (by
          obtain ⟨y, -, -, rfl⟩ := (find_mem hE).1 hx
          rfl : x.score = scoF (supF (buildF c s) x.unit (posQ Q))))
        have HASC := Lib.hid (fun (j : Nat) (x y : Hit) (hx : (findL c s (undB c) (buildF c s) q Q)[j]? = some x) (hy : (findL c s (undB c) (buildF c s) q Q)[j + 1]? = some y) => find_asc hx hy)
        have HNOD := Lib.hid (find_units (c := c) (s := s) (und := undB c) (l := buildF c s) (q := q) (Q := Q))
        have HFU := Lib.hid (fun (hE : findE c s (buildF c s) q = 0) (k : Nat) (x : Sheet) (hx : c.sheets[k]? = some x) => find_unit (und := undB c) (Q := Q) hE hx)
        have HUN := Lib.hid (fun (hE : findE c s (buildF c s) q = 0) => units_nodup (find_l hE).1)
        have HSUB := Lib.hid (fun (hE : findE c s (buildF c s) q = 0) (u : Int) (hu : u ∈ (findL c s (undB c) (buildF c s) q Q).map Hit.unit) => (by
          obtain ⟨x, hx, rfl⟩ := List.mem_map.1 hu
          obtain ⟨y, hy, -, rfl⟩ := (find_mem hE).1 hx
          exact List.mem_map.2 ⟨y, hy, rfl⟩ : u ∈ c.sheets.map Sheet.unit))
        have HMA := Lib.hid (fun (hE : findE c s (buildF c s) q = 0) (k : Nat) (x : Sheet) (hx : c.sheets[k]? = some x) (v1 v2 v3 vq' : Value) (W : World) (hW : Below w.heap.size w W) (hr : CatRep W W.heap.size c v1 v2 v3) (hq' : Asks W W.heap.size q vq') => (by
          obtain ⟨e0, e1, e2, -, -⟩ := find_l hE
          have := qmatch_c c s x.unit q Q v1 v2 v3 vq' W W.heap.size (Nat.le_refl _) hr hq' hQ hq70 (fun h0 => few14 hF h0) (HVR.out W hW)
          obtain ⟨g1, g2⟩ := mt_at (Q := Q) e0 e1 e2 (sheet_ix6 e0 hx) hx
          rw [g1, g2] at this
          exact this : Calls Tryz.prog 26 #[.agg #[v1, v2, v3], .string s, .int .i64 x.unit, vq'] W fun e w' => e = .returned (.tuple #[.bool (mchB c s (undB c) Q x), .int .i64 0]) ∧ Below W.heap.size W w'))
        have HBE := Lib.hid (fun (hE : findE c s (buildF c s) q = 0) => (find_l hE).2.2.2.1)
        have HPL := Lib.hid (fun (u : Int) => (Nat.le_trans (List.length_filter_le _ _) (by omega) : (supF (buildF c s) u (posQ Q)).length ≤ 1000000))
        have HHL := Lib.hid (Nat.le_trans (find_len c s (undB c) (buildF c s) q Q) hF.sheets)
        have HFN := Lib.hid (show findE c s (buildF c s) q ≠ 0 → findL c s (undB c) (buildF c s) q Q = [] from fun he => by unfold findL; rw [if_neg he])
        have HCC := Lib.hid (HCC.out hF)
        have HCQ := Lib.hid (HCQ.out (by omega))
        clear hfq hQ hq70 HFQ HA HONE HFW hF hlen HVR
        generalize findL c s (undB c) (buildF c s) q Q = H at *
        generalize findE c s (buildF c s) q = fe at *
        obtain ⟨z0, z1, z2, zl⟩ := KC.out _ bX
        go_wp2_with fail
        refine HFX.out.mono ?_
        rintro e w3 ⟨rfl, rfl⟩
        go_wp2_with fail
        refine (HCC.out _ (HUP.out _ bX)).mono ?_
        rintro e w4 ⟨e1, e2, e3, rfl, hr4, -, hb4⟩
        have bX := bnd_call bX hsO hb4
        go_wp2_with fail
        refine (HBD.out _ _ _ _ hr4).mono ?_
        rintro e w5 ⟨vL, rfl, hL, hb5⟩
        have bX := bnd_call bX hsO hb5
        have hL5 := hL.toSl pstS
        obtain ⟨AL, nL, cL, rfl, -⟩ := own_form pstS hL
        clear hr4 hL hb4 hb5 z0 z1 z2 zl
        have hmm := @run_makeMap Tryz.prog
        have HBX := Lib.hid (fun (W : World) (hW : Below w5.heap.size w5 W) => bnd_call bX hsO hW)
        have hlp := Lib.hid (fun (W : World) (hW : Below w5.heap.size w5 W) => (hL5.below pstS hW).mono pstS hW.size)
        have KS := Lib.hid (fun (W : World) (hW : Below w5.heap.size w5 W) => KC.out _ (HBX.out W hW))
        have hbY : Below w5.heap.size w5 w5 := Below.refl _ _
        obtain ⟨z0, z1, z2, zl⟩ := KS.out _ hbY
        go_wp2_with fail
        refine (HCC.out _ (HUP.out _ (HBX.out _ hbY))).mono ?_
        rintro e w9 ⟨e1, e2, e3, rfl, hre, -, hb9⟩
        have hbY := bnd_call hbY (Nat.le_refl _) hb9
        go_wp2_with fail
        refine (HCL.out _ _ (hlp.out _ hbY)).mono ?_
        rintro e w10 ⟨v10, rfl, hoc, hb10⟩
        have hbY := bnd_call hbY (Nat.le_refl _) hb10
        have hre := (hre.below hb10).mono hb10.size
        have hcp := hoc.toSl pstS
        obtain ⟨A10, n10, c10, rfl, -⟩ := own_form pstS hoc
        go_wp2_with fail
        refine (HCQ.out _ (HUP.out _ (HBX.out _ hbY))).mono ?_
        rintro e w11 ⟨v11, rfl, hoq, hb11⟩
        have hbY := bnd_call hbY (Nat.le_refl _) hb11
        have hre := (hre.below hb11).mono hb11.size
        have hcp := (hcp.below pstS hb11).mono pstS hb11.size
        have hqp := hoq.toSl askS
        have HFX := Lib.hid (HFI.out _ _ _ _ _ _ (HUP.out _ (HBX.out _ hbY)) hre hcp hqp)
        obtain ⟨A11, n11, c11, rfl, -⟩ := own_form askS hoq
        clear z0 z1 z2 zl hL5 hoc hoq hre hcp hqp hb9 hb10 hb11 HFI
        go_wp2_with fail
        refine HFX.out.mono ?_
        rintro e w12 ⟨v12, rfl, hoh, hb12⟩
        have hbY := bnd_call hbY (Nat.le_refl _) hb12
        have hh12 := hoh.toSl hitS
        obtain ⟨AH, nH, cH, rfl, hnH⟩ := own_form hitS hoh
        clear hoh hb12 HFX
        by_cases hfe : fe = 0
        · have hbe := HBE.out hfe
          have HSP2 := Lib.hid (HSP.out hfe)
          have HSC2 := Lib.hid (HSCO.out hfe)
          have HFU2 := Lib.hid (HFU.out hfe)
          have HUN2 := Lib.hid (HUN.out hfe)
          have HSUB2 := Lib.hid (HSUB.out hfe)
          have HMA2 := Lib.hid (HMA.out hfe)
          have e9 := hnH.out
          subst e9
          have hfe' : (fe != 0) = false := by simp [hfe]
          clear HSP HSCO HFU HUN HSUB HMA HBE HFN hnH hfe
          have hhl := HHL.out
          generalize buildE c s = zb at *
          have HB2 := Lib.hid (fun (W : World) (hW : Below w12.heap.size w12 W) => bnd_call hbY (Nat.le_refl _) hW)
          have HHP := Lib.hid (fun (W : World) (hW : Below w12.heap.size w12 W) => (hh12.below hitS hW).mono hitS hW.size)
          have HFX := Lib.hid (fun (W : World) (hW : Below w12.heap.size w12 W) (hlt : w12.heap.size < W.heap.size) => KS.out W (HB2.out W hW))
          have oM : Below w12.heap.size w12 (w12.alloc (.map #[] 0)) := (Below.refl _ _).alloc (Nat.le_refl _) _
          have hM0 : MapF (w12.alloc (.map #[] 0)) w12.heap.size intV Value.bool (fM (H.take 0)) := by
            rw [List.take_zero, fM_nil]
            exact MapF.new w12 intV Value.bool rfl
          clear hh12
          go_wp2
          go_loopw [74] (fun i wr => ∃ k : Nat, k ≤ H.length ∧ i = .int .i64 k ∧ MapF wr w12.heap.size intV Value.bool (fM (H.take k)) ∧ Below w12.heap.size w12 wr) (fun i _ => H.length - (intOf i).toNat)
          case atStart => exact ⟨0, Nat.zero_le _, rfl, hM0, oM⟩
          case round =>
            clear hM0 oM
            obtain ⟨k, hk, rfl, hm, bw⟩ := hrel
            have hml := hm.lt
            have bwY := HB2.out _ bw
            by_cases hlt : k < H.length
            · obtain ⟨x, hx⟩ := get_at H hlt
              obtain ⟨bh, offh, rfl, hbB, q0, q1⟩ := Hits.at_ (HHP.out _ bw) hx
              have hbw : bh < wr.heap.size := hbB
              have hki : (k : Int) < (H.length : Int) := by omega
              have hwk : IntKind.i64.wrap ((k : Int) + 1) = (k : Int) + 1 := IntWalk.i64_in _ (by omega)
              have hx1 : Below wr.heap.size wr (wr.alloc (hitC x)) := (Below.refl _ _).alloc (Nat.le_refl _) _
              have bw1 := bw.trans (hx1.mono bw.size)
              have HB1 := Lib.hid (fun (W : World) (hW : Below (wr.alloc (hitC x)).heap.size (wr.alloc (hitC x)) W) => bw1.trans (hW.mono bw1.size))
              have KX := Lib.hid (fun (W : World) (hW : Below (wr.alloc (hitC x)).heap.size (wr.alloc (hitC x)) W) => (⟨(hW.cell (p := ⟨wr.heap.size, 0, none⟩) (by simp)).trans (by simp), (hW.cell (p := ⟨wr.heap.size, 1, none⟩) (by simp)).trans (by simp)⟩ : W.cell? ⟨wr.heap.size, 0, none⟩ = some (.int .i64 x.unit) ∧ W.cell? ⟨wr.heap.size, 1, none⟩ = some (.int .i64 x.score)))
              have HMX := Lib.hid (fun (W : World) (hW : Below (wr.alloc (hitC x)).heap.size (wr.alloc (hitC x)) W) => (hm.frame (Below.heap_alloc _ _ _ hml)).below hW (by simp; omega))
              have hbZ : Below (wr.alloc (hitC x)).heap.size (wr.alloc (hitC x)) (wr.alloc (hitC x)).drew := (Below.refl _ _).drew
              have HPX := Lib.hid (HSP2.out x.unit)
              have HSX := Lib.hid (HSC2.out x (List.mem_of_getElem? hx))
              have HPLX := Lib.hid (HPL.out x.unit)
              have HTK := Lib.hid (take_at hx)
              have HLV := Lib.hid (show (fM (H.take k) x.unit).getD false = false by
                unfold fM
                rw [if_neg]
                · rfl
                · intro hmem
                  have hn := HNOD.out
                  rw [← List.take_append_drop k H, List.map_append, List.nodup_append] at hn
                  exact hn.2.2 x.unit hmem x.unit (List.mem_map.2 ⟨x, by rw [drop_at hx]; simp, rfl⟩) rfl)
              generalize supF (buildF c s) x.unit (posQ Q) = P at *
              have hne : (x.score != scoF P) = false := by rw [HSX.out]; simp
              have HWU := Lib.hid (fun (W : World) (hW : Below (wr.alloc (hitC x)).heap.size (wr.alloc (hitC x)) W) => HUP.out _ (HBX.out _ (HB2.out _ (HB1.out W hW))))
              have HLP := Lib.hid (fun (W : World) (hW : Below (wr.alloc (hitC x)).heap.size (wr.alloc (hitC x)) W) => hlp.out _ (HB2.out _ (HB1.out W hW)))
              go_wp2
              go_region_held3 (fun W => W.cell? ⟨wr.heap.size, 0, none⟩ = some (.int .i64 x.unit) ∧ W.cell? ⟨wr.heap.size, 1, none⟩ = some (.int .i64 x.score)) (with_reducible exact KX.out _ hbZ) (first
                | (go_at_call 16; (with_reducible refine (HCL.out _ _ (HLP.out _ hbZ)).mono ?_); rintro e w14 ⟨v14, rfl, hoc, hb14⟩; have hbZ := bnd_call hbZ (Nat.le_refl _) hb14; have hcp := hoc.toSl pstS)
                | (go_at_call 23; (with_reducible refine (HCQ.out _ (HWU.out _ hbZ)).mono ?_); rintro e w15 ⟨v15, rfl, hoq, hb15⟩; have hbZ := bnd_call hbZ (Nat.le_refl _) hb15; have hcp := (hcp.below pstS hb15).mono pstS hb15.size; have hqp := hoq.toSl askS)
                | (go_at_call 24; (with_reducible refine (HPX.out _ _ _ (HWU.out _ hbZ) hcp hqp).mono ?_); rintro e w16 ⟨v16, rfl, hop, hb16⟩; have hbZ := bnd_call hbZ (Nat.le_refl _) hb16))
              have hpp := hop.toSl pstS
              obtain ⟨AP, nP, cP, rfl, hnP⟩ := own_form pstS hop
              have HBZ := Lib.hid (fun (W : World) (hW : Below w16.heap.size w16 W) => bnd_call hbZ (Nat.le_refl _) hW)
              have HSC := Lib.hid (fun (W : World) (hW : Below w16.heap.size w16 W) => score_c P (.slice AP nP cP) W W.heap.size (Nat.le_refl _) ((hpp.below pstS hW).mono pstS hW.size) HPLX.out)
              have HLK := Lib.hid (fun (W : World) (hW : Below w16.heap.size w16 W) => (by
                have := look_b (HMX.out _ (HBZ.out W hW)) x.unit
                rwa [HLV.out] at this : (Instr.lookup 54 (.map (some w12.heap.size)) (.int .i64 x.unit) false).run Tryz.prog W = .ok (.bool false) W))
              have HEND := Lib.hid (fun (W W' : World) (hW : Below w16.heap.size w16 W) (h1 : MapF W' w12.heap.size intV Value.bool (upd (fM (H.take k)) x.unit true)) (h2 : W.grownBy W' (some w12.heap.size)) => (by
                rw [fM_snoc, ← HTK.out] at h1
                have hb := HB1.out _ (HBZ.out _ hW)
                exact ⟨h1, hb.grown h2 hb.size (fun j hj => by injection hj; omega)⟩ : MapF W' w12.heap.size intV Value.bool (fM (H.take (k + 1))) ∧ Below w12.heap.size w12 W'))
              have hbQ : Below w16.heap.size w16 w16.drew := (Below.refl _ _).drew
              clear hop hoc hoq hcp hqp hb14 hb15 hb16 hpp hnP HPX
              rcases k with _ | j
              · have KEEP := Lib.hid (fun (W : World) (hW : Below w16.heap.size w16 W) => KX.out _ (HBZ.out W hW))
                clear hx q0 q1 hbB hbw
                go_wp2
                refine wp_region_held_drew (S := (fun W' => W'.cell? ⟨wr.heap.size, 0, none⟩ = some (.int .i64 x.unit) ∧ W'.cell? ⟨wr.heap.size, 1, none⟩ = some (.int .i64 x.score))) (by kernel_rfl) (by with_reducible exact KEEP.out _ hbQ) (fun hHeld0 => ?_)
                refine wpAnyH_take (i := 0) (oi := { dst := some 89, op := Go.Op.move (Go.Operand.tmp 15), type := 45, pos := "law.go:90", after := #[], guard := none }) (v := ?_) rfl (by kernel_rfl) (by kernel_rfl) (by kernel_rfl) (fun _ _ _ h => h) (Or.inl ⟨by rfl, ?_⟩) hHeld0 ?_
                rotate_left
                · intro w hSw
                  (try dsimp only at hSw)
                  go_simp
                  (try with_reducible rfl)
                (try simp only [Act.put, List.setIfInBounds_toArray, List.set_cons_zero, List.set_cons_succ])
                refine wpAnyH_take (i := 1) (oi := { dst := some 90, op := Go.Op.binOp Go.BinOp.neq 45 (Go.Operand.tmp 89) (Go.Operand.const (Go.Value.int Go.IntKind.i64 0)) 45, type := 4, pos := "law.go:90", after := #[{ on := 0, ground := Go.Ground.data }], guard := none }) (v := ?_) rfl (by kernel_rfl) (by kernel_rfl) (by kernel_rfl) (fun _ _ _ h => h) (Or.inl ⟨by rfl, ?_⟩) hHeld0 ?_
                rotate_left
                · intro w hSw
                  (try dsimp only at hSw)
                  go_simp
                  (try with_reducible rfl)
                (try simp only [Act.put, List.setIfInBounds_toArray, List.set_cons_zero, List.set_cons_succ])
                refine wpAnyH_take (i := 2) (oi := { dst := some 91, op := Go.Op.move (Go.Operand.tmp 90), type := 4, pos := "law.go:90", after := #[{ on := 1, ground := Go.Ground.data }], guard := none }) (v := ?_) rfl (by kernel_rfl) (by kernel_rfl) (by kernel_rfl) (fun _ _ _ h => h) (Or.inl ⟨by rfl, ?_⟩) hHeld0 ?_
                rotate_left
                · intro w hSw
                  (try dsimp only at hSw)
                  go_simp
                  (try with_reducible rfl)
                (try simp only [Act.put, List.setIfInBounds_toArray, List.set_cons_zero, List.set_cons_succ])
                refine wpAnyH_take (i := 3) (oi := { dst := some 92, op := Go.Op.fieldAddr 30 (Go.Operand.tmp 13) 1, type := 0, pos := "law.go:90", after := #[{ on := 2, ground := Go.Ground.guard }], guard := some (2, false) }) (v := ?_) rfl (by kernel_rfl) (by kernel_rfl) (by kernel_rfl) (fun _ _ _ h => h) (Or.inl ⟨by rfl, ?_⟩) hHeld0 ?_
                rotate_left
                · intro w hSw
                  (try dsimp only at hSw)
                  go_simp
                  (try with_reducible rfl)
                (try simp only [Act.put, List.setIfInBounds_toArray, List.set_cons_zero, List.set_cons_succ])
                refine wpAnyH_take (i := 4) (oi := { dst := some 93, op := Go.Op.load 3 (Go.Operand.tmp 92), type := 3, pos := "law.go:90", after := #[{ on := 3, ground := Go.Ground.data }, { on := 2, ground := Go.Ground.guard }], guard := some (2, false) }) (v := ?_) rfl (by kernel_rfl) (by kernel_rfl) (by kernel_rfl) (fun _ _ _ h => h) (Or.inl ⟨by rfl, ?_⟩) hHeld0 ?_
                rotate_left
                · intro w hSw
                  (try dsimp only at hSw)
                  go_simp
                  (try with_reducible rfl)
                (try simp only [Act.put, List.setIfInBounds_toArray, List.set_cons_zero, List.set_cons_succ])
                refine wpAnyH_take (i := 5) (oi := { dst := some 94, op := Go.Op.move (Go.Operand.tmp 14), type := 23, pos := "law.go:90", after := #[{ on := 2, ground := Go.Ground.guard }], guard := some (2, false) }) (v := ?_) rfl (by kernel_rfl) (by kernel_rfl) (by kernel_rfl) (fun _ _ _ h => h) (Or.inl ⟨by rfl, ?_⟩) hHeld0 ?_
                rotate_left
                · intro w hSw
                  (try dsimp only at hSw)
                  go_simp
                  (try with_reducible rfl)
                (try simp only [Act.put, List.setIfInBounds_toArray, List.set_cons_zero, List.set_cons_succ])
                refine wpAnyH_ready (rs := [6]) (by kernel_rfl) (by simp) ?_
                refine AllReadyH.cons (o := { dst := some 95, op := Go.Op.call { callee := Go.Callee.value (Go.Operand.func 25), args := #[Go.Operand.tmp 94], argTypes := #[23] }, type := 3, pos := "law.go:90", after := #[{ on := 5, ground := Go.Ground.data }, { on := 2, ground := Go.Ground.chain }, { on := 2, ground := Go.Ground.guard }], guard := some (2, false) }) rfl (fun K hK => ?_) AllReadyH.nil
                go_simp
                go_at_call 25
                (with_reducible refine (HSC.out _ hbQ).mono ?_)
                rintro e w18 ⟨rfl, hb18⟩
                have hbQ := hbQ.trans (hb18.mono hbQ.size)
                have hlk := HLK.out _ hbQ
                refine hK.out _ _ (by with_reducible exact KEEP.out _ hbQ) (fun hHeld1 => ?_)
                clear hK K hHeld0
                (try simp only [Act.put, List.setIfInBounds_toArray, List.set_cons_zero, List.set_cons_succ])
                refine wpAnyH_take (i := 7) (oi := { dst := some 96, op := Go.Op.binOp Go.BinOp.neq 3 (Go.Operand.tmp 93) (Go.Operand.tmp 95) 3, type := 4, pos := "law.go:90", after := #[{ on := 4, ground := Go.Ground.data }, { on := 6, ground := Go.Ground.data }, { on := 2, ground := Go.Ground.guard }], guard := some (2, false) }) (v := ?_) rfl (by kernel_rfl) (by kernel_rfl) (by kernel_rfl) (fun _ _ _ h => h) (Or.inl ⟨by rfl, ?_⟩) hHeld1 ?_
                rotate_left
                · intro w hSw
                  (try dsimp only at hSw)
                  go_simp
                  (try with_reducible rfl)
                (try simp only [Act.put, List.setIfInBounds_toArray, List.set_cons_zero, List.set_cons_succ])
                refine wpAnyH_take (i := 8) (oi := { dst := some 97, op := Go.Op.pick (Go.Operand.tmp 91) (Go.Operand.const (Go.Value.bool true)) (Go.Operand.tmp 96), type := 4, pos := "law.go:90", after := #[{ on := 2, ground := Go.Ground.data }, { on := 7, ground := Go.Ground.data }], guard := none }) (v := ?_) rfl (by kernel_rfl) (by kernel_rfl) (by kernel_rfl) (fun _ _ _ h => h) (Or.inl ⟨by rfl, ?_⟩) hHeld1 ?_
                rotate_left
                · intro w hSw
                  (try dsimp only at hSw)
                  go_simp
                  (try with_reducible rfl)
                (try simp only [Act.put, List.setIfInBounds_toArray, List.set_cons_zero, List.set_cons_succ])
                refine wpAnyH_take (i := 9) (oi := { dst := some 98, op := Go.Op.move (Go.Operand.tmp 97), type := 4, pos := "law.go:90", after := #[{ on := 8, ground := Go.Ground.data }, { on := 6, ground := Go.Ground.chain }], guard := none }) (v := ?_) rfl (by kernel_rfl) (by kernel_rfl) (by kernel_rfl) (fun _ _ _ h => h) (Or.inl ⟨by rfl, ?_⟩) hHeld1 ?_
                rotate_left
                · intro w hSw
                  (try dsimp only at hSw)
                  go_simp
                  (try with_reducible rfl)
                (try simp only [Act.put, List.setIfInBounds_toArray, List.set_cons_zero, List.set_cons_succ])
                refine wpAnyH_take (i := 10) (oi := { dst := some 99, op := Go.Op.move (Go.Operand.tmp 11), type := 54, pos := "law.go:90", after := #[{ on := 9, ground := Go.Ground.guard }], guard := some (9, false) }) (v := ?_) rfl (by kernel_rfl) (by kernel_rfl) (by kernel_rfl) (fun _ _ _ h => h) (Or.inl ⟨by rfl, ?_⟩) hHeld1 ?_
                rotate_left
                · intro w hSw
                  (try dsimp only at hSw)
                  go_simp
                  (try with_reducible rfl)
                (try simp only [Act.put, List.setIfInBounds_toArray, List.set_cons_zero, List.set_cons_succ])
                refine wpAnyH_take (i := 11) (oi := { dst := some 100, op := Go.Op.fieldAddr 30 (Go.Operand.tmp 13) 0, type := 0, pos := "law.go:90", after := #[{ on := 9, ground := Go.Ground.guard }], guard := some (9, false) }) (v := ?_) rfl (by kernel_rfl) (by kernel_rfl) (by kernel_rfl) (fun _ _ _ h => h) (Or.inl ⟨by rfl, ?_⟩) hHeld1 ?_
                rotate_left
                · intro w hSw
                  (try dsimp only at hSw)
                  go_simp
                  (try with_reducible rfl)
                (try simp only [Act.put, List.setIfInBounds_toArray, List.set_cons_zero, List.set_cons_succ])
                refine wpAnyH_take (i := 12) (oi := { dst := some 101, op := Go.Op.load 3 (Go.Operand.tmp 100), type := 3, pos := "law.go:90", after := #[{ on := 11, ground := Go.Ground.data }, { on := 9, ground := Go.Ground.guard }], guard := some (9, false) }) (v := ?_) rfl (by kernel_rfl) (by kernel_rfl) (by kernel_rfl) (fun _ _ _ h => h) (Or.inl ⟨by rfl, ?_⟩) hHeld1 ?_
                rotate_left
                · intro w hSw
                  (try dsimp only at hSw)
                  go_simp
                  (try with_reducible rfl)
                (try simp only [Act.put, List.setIfInBounds_toArray, List.set_cons_zero, List.set_cons_succ])
                refine wpAnyH_ready (rs := [13]) (by kernel_rfl) (by simp) ?_
                refine AllReadyH.cons (o := { dst := some 102, op := Go.Op.lookup 54 (Go.Operand.tmp 99) (Go.Operand.tmp 101) false, type := 4, pos := "law.go:90", after := #[{ on := 10, ground := Go.Ground.data }, { on := 12, ground := Go.Ground.data }, { on := 9, ground := Go.Ground.guard }], guard := some (9, false) }) rfl (fun K hK => ?_) AllReadyH.nil
                go_simp
                refine hK.out _ _ (by with_reducible exact KEEP.out _ hbQ) (fun hHeld2 => ?_)
                clear hK K hHeld1
                (try simp only [Act.put, List.setIfInBounds_toArray, List.set_cons_zero, List.set_cons_succ])
                refine wpAnyH_take (i := 14) (oi := { dst := some 103, op := Go.Op.pick (Go.Operand.tmp 98) (Go.Operand.const (Go.Value.bool true)) (Go.Operand.tmp 102), type := 4, pos := "law.go:90", after := #[{ on := 9, ground := Go.Ground.data }, { on := 13, ground := Go.Ground.data }], guard := none }) (v := ?_) rfl (by kernel_rfl) (by kernel_rfl) (by kernel_rfl) (fun _ _ _ h => h) (Or.inl ⟨by rfl, ?_⟩) hHeld2 ?_
                rotate_left
                · intro w hSw
                  (try dsimp only at hSw)
                  go_simp
                  (try with_reducible rfl)
                (try simp only [Act.put, List.setIfInBounds_toArray, List.set_cons_zero, List.set_cons_succ])
                refine wpAnyH_take (i := 15) (oi := { dst := some 104, op := Go.Op.move (Go.Operand.tmp 103), type := 4, pos := "law.go:90", after := #[{ on := 14, ground := Go.Ground.data }, { on := 9, ground := Go.Ground.chain }], guard := none }) (v := ?_) rfl (by kernel_rfl) (by kernel_rfl) (by kernel_rfl) (fun _ _ _ h => h) (Or.inl ⟨by rfl, ?_⟩) hHeld2 ?_
                rotate_left
                · intro w hSw
                  (try dsimp only at hSw)
                  go_simp
                  (try with_reducible rfl)
                (try simp only [Act.put, List.setIfInBounds_toArray, List.set_cons_zero, List.set_cons_succ])
                refine wpAnyH_take (i := 16) (oi := { dst := some 105, op := Go.Op.move (Go.Operand.tmp 12), type := 3, pos := "law.go:90", after := #[{ on := 15, ground := Go.Ground.guard }], guard := some (15, false) }) (v := ?_) rfl (by kernel_rfl) (by kernel_rfl) (by kernel_rfl) (fun _ _ _ h => h) (Or.inl ⟨by rfl, ?_⟩) hHeld2 ?_
                rotate_left
                · intro w hSw
                  (try dsimp only at hSw)
                  go_simp
                  (try with_reducible rfl)
                (try simp only [Act.put, List.setIfInBounds_toArray, List.set_cons_zero, List.set_cons_succ])
                refine wpAnyH_take (i := 17) (oi := { dst := some 106, op := Go.Op.binOp Go.BinOp.gtr 3 (Go.Operand.tmp 105) (Go.Operand.const (Go.Value.int Go.IntKind.i64 0)) 3, type := 4, pos := "law.go:90", after := #[{ on := 16, ground := Go.Ground.data }, { on := 15, ground := Go.Ground.guard }], guard := some (15, false) }) (v := ?_) rfl (by kernel_rfl) (by kernel_rfl) (by kernel_rfl) (fun _ _ _ h => h) (Or.inl ⟨by rfl, ?_⟩) hHeld2 ?_
                rotate_left
                · intro w hSw
                  (try dsimp only at hSw)
                  go_simp
                  (try with_reducible rfl)
                (try simp only [Act.put, List.setIfInBounds_toArray, List.set_cons_zero, List.set_cons_succ])
                refine wpAnyH_take (i := 18) (oi := { dst := some 107, op := Go.Op.move (Go.Operand.tmp 106), type := 4, pos := "law.go:90", after := #[{ on := 17, ground := Go.Ground.data }, { on := 15, ground := Go.Ground.chain }, { on := 15, ground := Go.Ground.guard }], guard := some (15, false) }) (v := ?_) rfl (by kernel_rfl) (by kernel_rfl) (by kernel_rfl) (fun _ _ _ h => h) (Or.inl ⟨by rfl, ?_⟩) hHeld2 ?_
                rotate_left
                · intro w hSw
                  (try dsimp only at hSw)
                  go_simp
                  (try with_reducible rfl)
                (try simp only [Act.put, List.setIfInBounds_toArray, List.set_cons_zero, List.set_cons_succ])
                refine wpAnyH_take (i := 19) (oi := { dst := some 108, op := Go.Op.move (Go.Operand.tmp 9), type := 22, pos := "law.go:90", after := #[{ on := 18, ground := Go.Ground.guard }], guard := some (18, true) }) (v := undef) rfl (by kernel_rfl) (by kernel_rfl) (by kernel_rfl) (fun _ _ _ h => h) (Or.inr ⟨by rfl, rfl⟩) hHeld2 ?_
                (try simp only [Act.put, List.setIfInBounds_toArray, List.set_cons_zero, List.set_cons_succ])
                refine wpAnyH_take (i := 20) (oi := { dst := some 109, op := Go.Op.move (Go.Operand.tmp 12), type := 3, pos := "law.go:90", after := #[{ on := 18, ground := Go.Ground.guard }], guard := some (18, true) }) (v := undef) rfl (by kernel_rfl) (by kernel_rfl) (by kernel_rfl) (fun _ _ _ h => h) (Or.inr ⟨by rfl, rfl⟩) hHeld2 ?_
                (try simp only [Act.put, List.setIfInBounds_toArray, List.set_cons_zero, List.set_cons_succ])
                refine wpAnyH_take (i := 21) (oi := { dst := some 110, op := Go.Op.binOp Go.BinOp.sub 3 (Go.Operand.tmp 109) (Go.Operand.const (Go.Value.int Go.IntKind.i64 1)) 3, type := 3, pos := "law.go:90", after := #[{ on := 20, ground := Go.Ground.data }, { on := 18, ground := Go.Ground.guard }], guard := some (18, true) }) (v := undef) rfl (by kernel_rfl) (by kernel_rfl) (by kernel_rfl) (fun _ _ _ h => h) (Or.inr ⟨by rfl, rfl⟩) hHeld2 ?_
                (try simp only [Act.put, List.setIfInBounds_toArray, List.set_cons_zero, List.set_cons_succ])
                refine wpAnyH_take (i := 22) (oi := { dst := some 111, op := Go.Op.indexAddr 22 (Go.Operand.tmp 108) (Go.Operand.tmp 110), type := 0, pos := "law.go:90", after := #[{ on := 19, ground := Go.Ground.data }, { on := 21, ground := Go.Ground.data }, { on := 18, ground := Go.Ground.guard }], guard := some (18, true) }) (v := undef) rfl (by kernel_rfl) (by kernel_rfl) (by kernel_rfl) (fun _ _ _ h => h) (Or.inr ⟨by rfl, rfl⟩) hHeld2 ?_
                (try simp only [Act.put, List.setIfInBounds_toArray, List.set_cons_zero, List.set_cons_succ])
                refine wpAnyH_take (i := 23) (oi := { dst := some 112, op := Go.Op.fieldAddr 30 (Go.Operand.tmp 111) 1, type := 0, pos := "law.go:90", after := #[{ on := 22, ground := Go.Ground.data }, { on := 18, ground := Go.Ground.guard }], guard := some (18, true) }) (v := undef) rfl (by kernel_rfl) (by kernel_rfl) (by kernel_rfl) (fun _ _ _ h => h) (Or.inr ⟨by rfl, rfl⟩) hHeld2 ?_
                (try simp only [Act.put, List.setIfInBounds_toArray, List.set_cons_zero, List.set_cons_succ])
                refine wpAnyH_take (i := 24) (oi := { dst := some 113, op := Go.Op.load 3 (Go.Operand.tmp 112), type := 3, pos := "law.go:90", after := #[{ on := 23, ground := Go.Ground.data }, { on := 18, ground := Go.Ground.guard }], guard := some (18, true) }) (v := undef) rfl (by kernel_rfl) (by kernel_rfl) (by kernel_rfl) (fun _ _ _ h => h) (Or.inr ⟨by rfl, rfl⟩) hHeld2 ?_
                (try simp only [Act.put, List.setIfInBounds_toArray, List.set_cons_zero, List.set_cons_succ])
                refine wpAnyH_take (i := 25) (oi := { dst := some 114, op := Go.Op.fieldAddr 30 (Go.Operand.tmp 13) 1, type := 0, pos := "law.go:90", after := #[{ on := 18, ground := Go.Ground.guard }], guard := some (18, true) }) (v := undef) rfl (by kernel_rfl) (by kernel_rfl) (by kernel_rfl) (fun _ _ _ h => h) (Or.inr ⟨by rfl, rfl⟩) hHeld2 ?_
                (try simp only [Act.put, List.setIfInBounds_toArray, List.set_cons_zero, List.set_cons_succ])
                refine wpAnyH_take (i := 26) (oi := { dst := some 115, op := Go.Op.load 3 (Go.Operand.tmp 114), type := 3, pos := "law.go:90", after := #[{ on := 25, ground := Go.Ground.data }, { on := 18, ground := Go.Ground.guard }], guard := some (18, true) }) (v := undef) rfl (by kernel_rfl) (by kernel_rfl) (by kernel_rfl) (fun _ _ _ h => h) (Or.inr ⟨by rfl, rfl⟩) hHeld2 ?_
                (try simp only [Act.put, List.setIfInBounds_toArray, List.set_cons_zero, List.set_cons_succ])
                refine wpAnyH_take (i := 27) (oi := { dst := some 116, op := Go.Op.binOp Go.BinOp.lss 3 (Go.Operand.tmp 113) (Go.Operand.tmp 115) 3, type := 4, pos := "law.go:90", after := #[{ on := 24, ground := Go.Ground.data }, { on := 26, ground := Go.Ground.data }, { on := 18, ground := Go.Ground.guard }], guard := some (18, true) }) (v := undef) rfl (by kernel_rfl) (by kernel_rfl) (by kernel_rfl) (fun _ _ _ h => h) (Or.inr ⟨by rfl, rfl⟩) hHeld2 ?_
                (try simp only [Act.put, List.setIfInBounds_toArray, List.set_cons_zero, List.set_cons_succ])
                refine wpAnyH_take (i := 28) (oi := { dst := some 117, op := Go.Op.move (Go.Operand.tmp 116), type := 4, pos := "law.go:90", after := #[{ on := 27, ground := Go.Ground.data }, { on := 18, ground := Go.Ground.chain }, { on := 18, ground := Go.Ground.guard }], guard := some (18, true) }) (v := undef) rfl (by kernel_rfl) (by kernel_rfl) (by kernel_rfl) (fun _ _ _ h => h) (Or.inr ⟨by rfl, rfl⟩) hHeld2 ?_
                (try simp only [Act.put, List.setIfInBounds_toArray, List.set_cons_zero, List.set_cons_succ])
                refine wpAnyH_take (i := 29) (oi := { dst := some 118, op := Go.Op.move (Go.Operand.tmp 9), type := 22, pos := "law.go:90", after := #[{ on := 28, ground := Go.Ground.guard }], guard := some (28, false) }) (v := undef) rfl (by kernel_rfl) (by kernel_rfl) (by kernel_rfl) (fun _ _ _ h => h) (Or.inr ⟨by rfl, rfl⟩) hHeld2 ?_
                (try simp only [Act.put, List.setIfInBounds_toArray, List.set_cons_zero, List.set_cons_succ])
                refine wpAnyH_take (i := 30) (oi := { dst := some 119, op := Go.Op.move (Go.Operand.tmp 12), type := 3, pos := "law.go:90", after := #[{ on := 28, ground := Go.Ground.guard }], guard := some (28, false) }) (v := undef) rfl (by kernel_rfl) (by kernel_rfl) (by kernel_rfl) (fun _ _ _ h => h) (Or.inr ⟨by rfl, rfl⟩) hHeld2 ?_
                (try simp only [Act.put, List.setIfInBounds_toArray, List.set_cons_zero, List.set_cons_succ])
                refine wpAnyH_take (i := 31) (oi := { dst := some 120, op := Go.Op.binOp Go.BinOp.sub 3 (Go.Operand.tmp 119) (Go.Operand.const (Go.Value.int Go.IntKind.i64 1)) 3, type := 3, pos := "law.go:90", after := #[{ on := 30, ground := Go.Ground.data }, { on := 28, ground := Go.Ground.guard }], guard := some (28, false) }) (v := undef) rfl (by kernel_rfl) (by kernel_rfl) (by kernel_rfl) (fun _ _ _ h => h) (Or.inr ⟨by rfl, rfl⟩) hHeld2 ?_
                (try simp only [Act.put, List.setIfInBounds_toArray, List.set_cons_zero, List.set_cons_succ])
                refine wpAnyH_take (i := 32) (oi := { dst := some 121, op := Go.Op.indexAddr 22 (Go.Operand.tmp 118) (Go.Operand.tmp 120), type := 0, pos := "law.go:90", after := #[{ on := 29, ground := Go.Ground.data }, { on := 31, ground := Go.Ground.data }, { on := 28, ground := Go.Ground.guard }], guard := some (28, false) }) (v := undef) rfl (by kernel_rfl) (by kernel_rfl) (by kernel_rfl) (fun _ _ _ h => h) (Or.inr ⟨by rfl, rfl⟩) hHeld2 ?_
                (try simp only [Act.put, List.setIfInBounds_toArray, List.set_cons_zero, List.set_cons_succ])
                refine wpAnyH_take (i := 33) (oi := { dst := some 122, op := Go.Op.fieldAddr 30 (Go.Operand.tmp 121) 1, type := 0, pos := "law.go:90", after := #[{ on := 32, ground := Go.Ground.data }, { on := 28, ground := Go.Ground.guard }], guard := some (28, false) }) (v := undef) rfl (by kernel_rfl) (by kernel_rfl) (by kernel_rfl) (fun _ _ _ h => h) (Or.inr ⟨by rfl, rfl⟩) hHeld2 ?_
                (try simp only [Act.put, List.setIfInBounds_toArray, List.set_cons_zero, List.set_cons_succ])
                refine wpAnyH_take (i := 34) (oi := { dst := some 123, op := Go.Op.load 3 (Go.Operand.tmp 122), type := 3, pos := "law.go:90", after := #[{ on := 33, ground := Go.Ground.data }, { on := 28, ground := Go.Ground.guard }], guard := some (28, false) }) (v := undef) rfl (by kernel_rfl) (by kernel_rfl) (by kernel_rfl) (fun _ _ _ h => h) (Or.inr ⟨by rfl, rfl⟩) hHeld2 ?_
                (try simp only [Act.put, List.setIfInBounds_toArray, List.set_cons_zero, List.set_cons_succ])
                refine wpAnyH_take (i := 35) (oi := { dst := some 124, op := Go.Op.fieldAddr 30 (Go.Operand.tmp 13) 1, type := 0, pos := "law.go:90", after := #[{ on := 28, ground := Go.Ground.guard }], guard := some (28, false) }) (v := undef) rfl (by kernel_rfl) (by kernel_rfl) (by kernel_rfl) (fun _ _ _ h => h) (Or.inr ⟨by rfl, rfl⟩) hHeld2 ?_
                (try simp only [Act.put, List.setIfInBounds_toArray, List.set_cons_zero, List.set_cons_succ])
                refine wpAnyH_take (i := 36) (oi := { dst := some 125, op := Go.Op.load 3 (Go.Operand.tmp 124), type := 3, pos := "law.go:90", after := #[{ on := 35, ground := Go.Ground.data }, { on := 28, ground := Go.Ground.guard }], guard := some (28, false) }) (v := undef) rfl (by kernel_rfl) (by kernel_rfl) (by kernel_rfl) (fun _ _ _ h => h) (Or.inr ⟨by rfl, rfl⟩) hHeld2 ?_
                (try simp only [Act.put, List.setIfInBounds_toArray, List.set_cons_zero, List.set_cons_succ])
                refine wpAnyH_take (i := 37) (oi := { dst := some 126, op := Go.Op.binOp Go.BinOp.eql 3 (Go.Operand.tmp 123) (Go.Operand.tmp 125) 3, type := 4, pos := "law.go:90", after := #[{ on := 34, ground := Go.Ground.data }, { on := 36, ground := Go.Ground.data }, { on := 28, ground := Go.Ground.guard }], guard := some (28, false) }) (v := undef) rfl (by kernel_rfl) (by kernel_rfl) (by kernel_rfl) (fun _ _ _ h => h) (Or.inr ⟨by rfl, rfl⟩) hHeld2 ?_
                (try simp only [Act.put, List.setIfInBounds_toArray, List.set_cons_zero, List.set_cons_succ])
                refine wpAnyH_take (i := 38) (oi := { dst := some 127, op := Go.Op.move (Go.Operand.tmp 126), type := 4, pos := "law.go:90", after := #[{ on := 37, ground := Go.Ground.data }, { on := 28, ground := Go.Ground.chain }, { on := 28, ground := Go.Ground.guard }], guard := some (28, false) }) (v := undef) rfl (by kernel_rfl) (by kernel_rfl) (by kernel_rfl) (fun _ _ _ h => h) (Or.inr ⟨by rfl, rfl⟩) hHeld2 ?_
                (try simp only [Act.put, List.setIfInBounds_toArray, List.set_cons_zero, List.set_cons_succ])
                refine wpAnyH_take (i := 39) (oi := { dst := some 128, op := Go.Op.move (Go.Operand.tmp 9), type := 22, pos := "law.go:90", after := #[{ on := 38, ground := Go.Ground.guard }], guard := some (38, true) }) (v := undef) rfl (by kernel_rfl) (by kernel_rfl) (by kernel_rfl) (fun _ _ _ h => h) (Or.inr ⟨by rfl, rfl⟩) hHeld2 ?_
                (try simp only [Act.put, List.setIfInBounds_toArray, List.set_cons_zero, List.set_cons_succ])
                refine wpAnyH_take (i := 40) (oi := { dst := some 129, op := Go.Op.move (Go.Operand.tmp 12), type := 3, pos := "law.go:90", after := #[{ on := 38, ground := Go.Ground.guard }], guard := some (38, true) }) (v := undef) rfl (by kernel_rfl) (by kernel_rfl) (by kernel_rfl) (fun _ _ _ h => h) (Or.inr ⟨by rfl, rfl⟩) hHeld2 ?_
                (try simp only [Act.put, List.setIfInBounds_toArray, List.set_cons_zero, List.set_cons_succ])
                refine wpAnyH_take (i := 41) (oi := { dst := some 130, op := Go.Op.binOp Go.BinOp.sub 3 (Go.Operand.tmp 129) (Go.Operand.const (Go.Value.int Go.IntKind.i64 1)) 3, type := 3, pos := "law.go:90", after := #[{ on := 40, ground := Go.Ground.data }, { on := 38, ground := Go.Ground.guard }], guard := some (38, true) }) (v := undef) rfl (by kernel_rfl) (by kernel_rfl) (by kernel_rfl) (fun _ _ _ h => h) (Or.inr ⟨by rfl, rfl⟩) hHeld2 ?_
                (try simp only [Act.put, List.setIfInBounds_toArray, List.set_cons_zero, List.set_cons_succ])
                refine wpAnyH_take (i := 42) (oi := { dst := some 131, op := Go.Op.indexAddr 22 (Go.Operand.tmp 128) (Go.Operand.tmp 130), type := 0, pos := "law.go:90", after := #[{ on := 39, ground := Go.Ground.data }, { on := 41, ground := Go.Ground.data }, { on := 38, ground := Go.Ground.guard }], guard := some (38, true) }) (v := undef) rfl (by kernel_rfl) (by kernel_rfl) (by kernel_rfl) (fun _ _ _ h => h) (Or.inr ⟨by rfl, rfl⟩) hHeld2 ?_
                (try simp only [Act.put, List.setIfInBounds_toArray, List.set_cons_zero, List.set_cons_succ])
                refine wpAnyH_take (i := 43) (oi := { dst := some 132, op := Go.Op.fieldAddr 30 (Go.Operand.tmp 131) 0, type := 0, pos := "law.go:90", after := #[{ on := 42, ground := Go.Ground.data }, { on := 38, ground := Go.Ground.guard }], guard := some (38, true) }) (v := undef) rfl (by kernel_rfl) (by kernel_rfl) (by kernel_rfl) (fun _ _ _ h => h) (Or.inr ⟨by rfl, rfl⟩) hHeld2 ?_
                (try simp only [Act.put, List.setIfInBounds_toArray, List.set_cons_zero, List.set_cons_succ])
                refine wpAnyH_take (i := 44) (oi := { dst := some 133, op := Go.Op.load 3 (Go.Operand.tmp 132), type := 3, pos := "law.go:90", after := #[{ on := 43, ground := Go.Ground.data }, { on := 38, ground := Go.Ground.guard }], guard := some (38, true) }) (v := undef) rfl (by kernel_rfl) (by kernel_rfl) (by kernel_rfl) (fun _ _ _ h => h) (Or.inr ⟨by rfl, rfl⟩) hHeld2 ?_
                (try simp only [Act.put, List.setIfInBounds_toArray, List.set_cons_zero, List.set_cons_succ])
                refine wpAnyH_take (i := 45) (oi := { dst := some 134, op := Go.Op.fieldAddr 30 (Go.Operand.tmp 13) 0, type := 0, pos := "law.go:90", after := #[{ on := 38, ground := Go.Ground.guard }], guard := some (38, true) }) (v := undef) rfl (by kernel_rfl) (by kernel_rfl) (by kernel_rfl) (fun _ _ _ h => h) (Or.inr ⟨by rfl, rfl⟩) hHeld2 ?_
                (try simp only [Act.put, List.setIfInBounds_toArray, List.set_cons_zero, List.set_cons_succ])
                refine wpAnyH_take (i := 46) (oi := { dst := some 135, op := Go.Op.load 3 (Go.Operand.tmp 134), type := 3, pos := "law.go:90", after := #[{ on := 45, ground := Go.Ground.data }, { on := 38, ground := Go.Ground.guard }], guard := some (38, true) }) (v := undef) rfl (by kernel_rfl) (by kernel_rfl) (by kernel_rfl) (fun _ _ _ h => h) (Or.inr ⟨by rfl, rfl⟩) hHeld2 ?_
                (try simp only [Act.put, List.setIfInBounds_toArray, List.set_cons_zero, List.set_cons_succ])
                refine wpAnyH_take (i := 47) (oi := { dst := some 136, op := Go.Op.binOp Go.BinOp.geq 3 (Go.Operand.tmp 133) (Go.Operand.tmp 135) 3, type := 4, pos := "law.go:90", after := #[{ on := 44, ground := Go.Ground.data }, { on := 46, ground := Go.Ground.data }, { on := 38, ground := Go.Ground.guard }], guard := some (38, true) }) (v := undef) rfl (by kernel_rfl) (by kernel_rfl) (by kernel_rfl) (fun _ _ _ h => h) (Or.inr ⟨by rfl, rfl⟩) hHeld2 ?_
                (try simp only [Act.put, List.setIfInBounds_toArray, List.set_cons_zero, List.set_cons_succ])
                refine wpAnyH_take (i := 48) (oi := { dst := some 137, op := Go.Op.pick (Go.Operand.tmp 127) (Go.Operand.tmp 136) (Go.Operand.const (Go.Value.bool false)), type := 4, pos := "law.go:90", after := #[{ on := 38, ground := Go.Ground.data }, { on := 47, ground := Go.Ground.data }, { on := 28, ground := Go.Ground.guard }], guard := some (28, false) }) (v := undef) rfl (by kernel_rfl) (by kernel_rfl) (by kernel_rfl) (fun _ _ _ h => h) (Or.inr ⟨by rfl, rfl⟩) hHeld2 ?_
                (try simp only [Act.put, List.setIfInBounds_toArray, List.set_cons_zero, List.set_cons_succ])
                refine wpAnyH_take (i := 49) (oi := { dst := some 138, op := Go.Op.pick (Go.Operand.tmp 117) (Go.Operand.const (Go.Value.bool true)) (Go.Operand.tmp 137), type := 4, pos := "law.go:90", after := #[{ on := 28, ground := Go.Ground.data }, { on := 48, ground := Go.Ground.data }, { on := 18, ground := Go.Ground.guard }], guard := some (18, true) }) (v := undef) rfl (by kernel_rfl) (by kernel_rfl) (by kernel_rfl) (fun _ _ _ h => h) (Or.inr ⟨by rfl, rfl⟩) hHeld2 ?_
                (try simp only [Act.put, List.setIfInBounds_toArray, List.set_cons_zero, List.set_cons_succ])
                refine wpAnyH_take (i := 50) (oi := { dst := some 139, op := Go.Op.pick (Go.Operand.tmp 107) (Go.Operand.tmp 138) (Go.Operand.const (Go.Value.bool false)), type := 4, pos := "law.go:90", after := #[{ on := 18, ground := Go.Ground.data }, { on := 49, ground := Go.Ground.data }, { on := 15, ground := Go.Ground.guard }], guard := some (15, false) }) (v := ?_) rfl (by kernel_rfl) (by kernel_rfl) (by kernel_rfl) (fun _ _ _ h => h) (Or.inl ⟨by rfl, ?_⟩) hHeld2 ?_
                rotate_left
                · intro w hSw
                  (try dsimp only at hSw)
                  go_simp
                  (try with_reducible rfl)
                (try simp only [Act.put, List.setIfInBounds_toArray, List.set_cons_zero, List.set_cons_succ])
                refine wpAnyH_take (i := 51) (oi := { dst := some 140, op := Go.Op.pick (Go.Operand.tmp 104) (Go.Operand.const (Go.Value.bool true)) (Go.Operand.tmp 139), type := 4, pos := "law.go:90", after := #[{ on := 15, ground := Go.Ground.data }, { on := 50, ground := Go.Ground.data }], guard := none }) (v := ?_) rfl (by kernel_rfl) (by kernel_rfl) (by kernel_rfl) (fun _ _ _ h => h) (Or.inl ⟨by rfl, ?_⟩) hHeld2 ?_
                rotate_left
                · intro w hSw
                  (try dsimp only at hSw)
                  go_simp
                  (try with_reducible rfl)
                (try simp only [Act.put, List.setIfInBounds_toArray, List.set_cons_zero, List.set_cons_succ])
                refine wpAnyH_done (by kernel_rfl) ?_ _
                obtain ⟨y0, y1⟩ := KEEP.out _ hbQ
                have hm18 := HMX.out _ (HBZ.out _ hbQ)
                go_wp2_with (at_mapUpdate; refine stop_intro ?_)
                refine stop_elim ?_
                refine wpList_mapPut rfl (.tmp 141) (.tmp 143) (.const (.bool true)) 54 (.inl rfl) intK6 Tryz.underlying54 hm18 rfl x.unit rfl true rfl ?_
                intro w19 hm19 hg19
                obtain ⟨r1, r2⟩ := HEND.out _ _ hbQ hm19 hg19
                clear hm19 hg19 hm18
                go_wp2
                go_roundw
                case rel => exact ⟨0 + 1, by omega, by go_num, r1, r2⟩
                case measure => simp [intOf]; omega
              · obtain ⟨y, hy⟩ := get_at H (show j < H.length by omega)
                obtain ⟨s1, s2⟩ := HASC.out j y x hy hx
                have hbz16 := HB1.out _ (HBZ.out _ (Below.refl w16.heap.size w16))
                have KEEP := Lib.hid (fun (W : World) (hW : Below w16.heap.size w16 W) => (by
                  obtain ⟨k1, k2⟩ := KX.out _ (HBZ.out W hW)
                  obtain ⟨bh2, offh2, e2, -, t0, t1⟩ := Hits.at_ (HHP.out _ (HB1.out _ (HBZ.out W hW))) hy
                  injection e2 with e2
                  injection e2 with e2 e3
                  subst e2 e3
                  exact ⟨k1, k2, t0, t1⟩ : W.cell? ⟨wr.heap.size, 0, none⟩ = some (.int .i64 x.unit) ∧ W.cell? ⟨wr.heap.size, 1, none⟩ = some (.int .i64 x.score) ∧ W.cell? ⟨bh, offh + j * 2, none⟩ = some (.int .i64 y.unit) ∧ W.cell? ⟨bh, offh + j * 2 + 1, none⟩ = some (.int .i64 y.score)))
                have hz1 : decide ((0 : Int) < (j : Int) + 1) = true := decide_eq_true (by omega)
                have hz3 : (j : Int) < (H.length : Int) := by omega
                have hz4 : (0 : Int) ≤ (j : Int) := by omega
                have hz6 : IntKind.i64.wrap ((j : Int) + 1 - 1) = (j : Int) := by rw [IntWalk.i64_in _ (by omega)]; omega
                have hz7 : IntKind.i64.wrap (j : Int) = (j : Int) := IntWalk.i64_in _ (by omega)
                have hlss : decide (y.score < x.score) = false := decide_eq_false (by omega)
                clear hx hy q0 q1 hbB hbw
                cases heq : (y.score == x.score)
                · clear s2
                  go_wp2
                  refine wp_region_held_drew (S := (fun W' => W'.cell? ⟨wr.heap.size, 0, none⟩ = some (.int .i64 x.unit) ∧ W'.cell? ⟨wr.heap.size, 1, none⟩ = some (.int .i64 x.score) ∧ W'.cell? ⟨bh, offh + j * 2, none⟩ = some (.int .i64 y.unit) ∧ W'.cell? ⟨bh, offh + j * 2 + 1, none⟩ = some (.int .i64 y.score))) (by kernel_rfl) (by with_reducible exact KEEP.out _ hbQ) (fun hHeld0 => ?_)
                  refine wpAnyH_take (i := 0) (oi := { dst := some 89, op := Go.Op.move (Go.Operand.tmp 15), type := 45, pos := "law.go:90", after := #[], guard := none }) (v := ?_) rfl (by kernel_rfl) (by kernel_rfl) (by kernel_rfl) (fun _ _ _ h => h) (Or.inl ⟨by rfl, ?_⟩) hHeld0 ?_
                  rotate_left
                  · intro w hSw
                    (try dsimp only at hSw)
                    go_simp
                    (try with_reducible rfl)
                  (try simp only [Act.put, List.setIfInBounds_toArray, List.set_cons_zero, List.set_cons_succ])
                  refine wpAnyH_take (i := 1) (oi := { dst := some 90, op := Go.Op.binOp Go.BinOp.neq 45 (Go.Operand.tmp 89) (Go.Operand.const (Go.Value.int Go.IntKind.i64 0)) 45, type := 4, pos := "law.go:90", after := #[{ on := 0, ground := Go.Ground.data }], guard := none }) (v := ?_) rfl (by kernel_rfl) (by kernel_rfl) (by kernel_rfl) (fun _ _ _ h => h) (Or.inl ⟨by rfl, ?_⟩) hHeld0 ?_
                  rotate_left
                  · intro w hSw
                    (try dsimp only at hSw)
                    go_simp
                    (try with_reducible rfl)
                  (try simp only [Act.put, List.setIfInBounds_toArray, List.set_cons_zero, List.set_cons_succ])
                  refine wpAnyH_take (i := 2) (oi := { dst := some 91, op := Go.Op.move (Go.Operand.tmp 90), type := 4, pos := "law.go:90", after := #[{ on := 1, ground := Go.Ground.data }], guard := none }) (v := ?_) rfl (by kernel_rfl) (by kernel_rfl) (by kernel_rfl) (fun _ _ _ h => h) (Or.inl ⟨by rfl, ?_⟩) hHeld0 ?_
                  rotate_left
                  · intro w hSw
                    (try dsimp only at hSw)
                    go_simp
                    (try with_reducible rfl)
                  (try simp only [Act.put, List.setIfInBounds_toArray, List.set_cons_zero, List.set_cons_succ])
                  refine wpAnyH_take (i := 3) (oi := { dst := some 92, op := Go.Op.fieldAddr 30 (Go.Operand.tmp 13) 1, type := 0, pos := "law.go:90", after := #[{ on := 2, ground := Go.Ground.guard }], guard := some (2, false) }) (v := ?_) rfl (by kernel_rfl) (by kernel_rfl) (by kernel_rfl) (fun _ _ _ h => h) (Or.inl ⟨by rfl, ?_⟩) hHeld0 ?_
                  rotate_left
                  · intro w hSw
                    (try dsimp only at hSw)
                    go_simp
                    (try with_reducible rfl)
                  (try simp only [Act.put, List.setIfInBounds_toArray, List.set_cons_zero, List.set_cons_succ])
                  refine wpAnyH_take (i := 4) (oi := { dst := some 93, op := Go.Op.load 3 (Go.Operand.tmp 92), type := 3, pos := "law.go:90", after := #[{ on := 3, ground := Go.Ground.data }, { on := 2, ground := Go.Ground.guard }], guard := some (2, false) }) (v := ?_) rfl (by kernel_rfl) (by kernel_rfl) (by kernel_rfl) (fun _ _ _ h => h) (Or.inl ⟨by rfl, ?_⟩) hHeld0 ?_
                  rotate_left
                  · intro w hSw
                    (try dsimp only at hSw)
                    go_simp
                    (try with_reducible rfl)
                  (try simp only [Act.put, List.setIfInBounds_toArray, List.set_cons_zero, List.set_cons_succ])
                  refine wpAnyH_take (i := 5) (oi := { dst := some 94, op := Go.Op.move (Go.Operand.tmp 14), type := 23, pos := "law.go:90", after := #[{ on := 2, ground := Go.Ground.guard }], guard := some (2, false) }) (v := ?_) rfl (by kernel_rfl) (by kernel_rfl) (by kernel_rfl) (fun _ _ _ h => h) (Or.inl ⟨by rfl, ?_⟩) hHeld0 ?_
                  rotate_left
                  · intro w hSw
                    (try dsimp only at hSw)
                    go_simp
                    (try with_reducible rfl)
                  (try simp only [Act.put, List.setIfInBounds_toArray, List.set_cons_zero, List.set_cons_succ])
                  refine wpAnyH_ready (rs := [6]) (by kernel_rfl) (by simp) ?_
                  refine AllReadyH.cons (o := { dst := some 95, op := Go.Op.call { callee := Go.Callee.value (Go.Operand.func 25), args := #[Go.Operand.tmp 94], argTypes := #[23] }, type := 3, pos := "law.go:90", after := #[{ on := 5, ground := Go.Ground.data }, { on := 2, ground := Go.Ground.chain }, { on := 2, ground := Go.Ground.guard }], guard := some (2, false) }) rfl (fun K hK => ?_) AllReadyH.nil
                  go_simp
                  go_at_call 25
                  (with_reducible refine (HSC.out _ hbQ).mono ?_)
                  rintro e w18 ⟨rfl, hb18⟩
                  have hbQ := hbQ.trans (hb18.mono hbQ.size)
                  have hlk := HLK.out _ hbQ
                  refine hK.out _ _ (by with_reducible exact KEEP.out _ hbQ) (fun hHeld1 => ?_)
                  clear hK K hHeld0
                  (try simp only [Act.put, List.setIfInBounds_toArray, List.set_cons_zero, List.set_cons_succ])
                  refine wpAnyH_take (i := 7) (oi := { dst := some 96, op := Go.Op.binOp Go.BinOp.neq 3 (Go.Operand.tmp 93) (Go.Operand.tmp 95) 3, type := 4, pos := "law.go:90", after := #[{ on := 4, ground := Go.Ground.data }, { on := 6, ground := Go.Ground.data }, { on := 2, ground := Go.Ground.guard }], guard := some (2, false) }) (v := ?_) rfl (by kernel_rfl) (by kernel_rfl) (by kernel_rfl) (fun _ _ _ h => h) (Or.inl ⟨by rfl, ?_⟩) hHeld1 ?_
                  rotate_left
                  · intro w hSw
                    (try dsimp only at hSw)
                    go_simp
                    (try with_reducible rfl)
                  (try simp only [Act.put, List.setIfInBounds_toArray, List.set_cons_zero, List.set_cons_succ])
                  refine wpAnyH_take (i := 8) (oi := { dst := some 97, op := Go.Op.pick (Go.Operand.tmp 91) (Go.Operand.const (Go.Value.bool true)) (Go.Operand.tmp 96), type := 4, pos := "law.go:90", after := #[{ on := 2, ground := Go.Ground.data }, { on := 7, ground := Go.Ground.data }], guard := none }) (v := ?_) rfl (by kernel_rfl) (by kernel_rfl) (by kernel_rfl) (fun _ _ _ h => h) (Or.inl ⟨by rfl, ?_⟩) hHeld1 ?_
                  rotate_left
                  · intro w hSw
                    (try dsimp only at hSw)
                    go_simp
                    (try with_reducible rfl)
                  (try simp only [Act.put, List.setIfInBounds_toArray, List.set_cons_zero, List.set_cons_succ])
                  refine wpAnyH_take (i := 9) (oi := { dst := some 98, op := Go.Op.move (Go.Operand.tmp 97), type := 4, pos := "law.go:90", after := #[{ on := 8, ground := Go.Ground.data }, { on := 6, ground := Go.Ground.chain }], guard := none }) (v := ?_) rfl (by kernel_rfl) (by kernel_rfl) (by kernel_rfl) (fun _ _ _ h => h) (Or.inl ⟨by rfl, ?_⟩) hHeld1 ?_
                  rotate_left
                  · intro w hSw
                    (try dsimp only at hSw)
                    go_simp
                    (try with_reducible rfl)
                  (try simp only [Act.put, List.setIfInBounds_toArray, List.set_cons_zero, List.set_cons_succ])
                  refine wpAnyH_take (i := 10) (oi := { dst := some 99, op := Go.Op.move (Go.Operand.tmp 11), type := 54, pos := "law.go:90", after := #[{ on := 9, ground := Go.Ground.guard }], guard := some (9, false) }) (v := ?_) rfl (by kernel_rfl) (by kernel_rfl) (by kernel_rfl) (fun _ _ _ h => h) (Or.inl ⟨by rfl, ?_⟩) hHeld1 ?_
                  rotate_left
                  · intro w hSw
                    (try dsimp only at hSw)
                    go_simp
                    (try with_reducible rfl)
                  (try simp only [Act.put, List.setIfInBounds_toArray, List.set_cons_zero, List.set_cons_succ])
                  refine wpAnyH_take (i := 11) (oi := { dst := some 100, op := Go.Op.fieldAddr 30 (Go.Operand.tmp 13) 0, type := 0, pos := "law.go:90", after := #[{ on := 9, ground := Go.Ground.guard }], guard := some (9, false) }) (v := ?_) rfl (by kernel_rfl) (by kernel_rfl) (by kernel_rfl) (fun _ _ _ h => h) (Or.inl ⟨by rfl, ?_⟩) hHeld1 ?_
                  rotate_left
                  · intro w hSw
                    (try dsimp only at hSw)
                    go_simp
                    (try with_reducible rfl)
                  (try simp only [Act.put, List.setIfInBounds_toArray, List.set_cons_zero, List.set_cons_succ])
                  refine wpAnyH_take (i := 12) (oi := { dst := some 101, op := Go.Op.load 3 (Go.Operand.tmp 100), type := 3, pos := "law.go:90", after := #[{ on := 11, ground := Go.Ground.data }, { on := 9, ground := Go.Ground.guard }], guard := some (9, false) }) (v := ?_) rfl (by kernel_rfl) (by kernel_rfl) (by kernel_rfl) (fun _ _ _ h => h) (Or.inl ⟨by rfl, ?_⟩) hHeld1 ?_
                  rotate_left
                  · intro w hSw
                    (try dsimp only at hSw)
                    go_simp
                    (try with_reducible rfl)
                  (try simp only [Act.put, List.setIfInBounds_toArray, List.set_cons_zero, List.set_cons_succ])
                  refine wpAnyH_ready (rs := [13]) (by kernel_rfl) (by simp) ?_
                  refine AllReadyH.cons (o := { dst := some 102, op := Go.Op.lookup 54 (Go.Operand.tmp 99) (Go.Operand.tmp 101) false, type := 4, pos := "law.go:90", after := #[{ on := 10, ground := Go.Ground.data }, { on := 12, ground := Go.Ground.data }, { on := 9, ground := Go.Ground.guard }], guard := some (9, false) }) rfl (fun K hK => ?_) AllReadyH.nil
                  go_simp
                  refine hK.out _ _ (by with_reducible exact KEEP.out _ hbQ) (fun hHeld2 => ?_)
                  clear hK K hHeld1
                  (try simp only [Act.put, List.setIfInBounds_toArray, List.set_cons_zero, List.set_cons_succ])
                  refine wpAnyH_take (i := 14) (oi := { dst := some 103, op := Go.Op.pick (Go.Operand.tmp 98) (Go.Operand.const (Go.Value.bool true)) (Go.Operand.tmp 102), type := 4, pos := "law.go:90", after := #[{ on := 9, ground := Go.Ground.data }, { on := 13, ground := Go.Ground.data }], guard := none }) (v := ?_) rfl (by kernel_rfl) (by kernel_rfl) (by kernel_rfl) (fun _ _ _ h => h) (Or.inl ⟨by rfl, ?_⟩) hHeld2 ?_
                  rotate_left
                  · intro w hSw
                    (try dsimp only at hSw)
                    go_simp
                    (try with_reducible rfl)
                  (try simp only [Act.put, List.setIfInBounds_toArray, List.set_cons_zero, List.set_cons_succ])
                  refine wpAnyH_take (i := 15) (oi := { dst := some 104, op := Go.Op.move (Go.Operand.tmp 103), type := 4, pos := "law.go:90", after := #[{ on := 14, ground := Go.Ground.data }, { on := 9, ground := Go.Ground.chain }], guard := none }) (v := ?_) rfl (by kernel_rfl) (by kernel_rfl) (by kernel_rfl) (fun _ _ _ h => h) (Or.inl ⟨by rfl, ?_⟩) hHeld2 ?_
                  rotate_left
                  · intro w hSw
                    (try dsimp only at hSw)
                    go_simp
                    (try with_reducible rfl)
                  (try simp only [Act.put, List.setIfInBounds_toArray, List.set_cons_zero, List.set_cons_succ])
                  refine wpAnyH_take (i := 16) (oi := { dst := some 105, op := Go.Op.move (Go.Operand.tmp 12), type := 3, pos := "law.go:90", after := #[{ on := 15, ground := Go.Ground.guard }], guard := some (15, false) }) (v := ?_) rfl (by kernel_rfl) (by kernel_rfl) (by kernel_rfl) (fun _ _ _ h => h) (Or.inl ⟨by rfl, ?_⟩) hHeld2 ?_
                  rotate_left
                  · intro w hSw
                    (try dsimp only at hSw)
                    go_simp
                    (try with_reducible rfl)
                  (try simp only [Act.put, List.setIfInBounds_toArray, List.set_cons_zero, List.set_cons_succ])
                  refine wpAnyH_take (i := 17) (oi := { dst := some 106, op := Go.Op.binOp Go.BinOp.gtr 3 (Go.Operand.tmp 105) (Go.Operand.const (Go.Value.int Go.IntKind.i64 0)) 3, type := 4, pos := "law.go:90", after := #[{ on := 16, ground := Go.Ground.data }, { on := 15, ground := Go.Ground.guard }], guard := some (15, false) }) (v := ?_) rfl (by kernel_rfl) (by kernel_rfl) (by kernel_rfl) (fun _ _ _ h => h) (Or.inl ⟨by rfl, ?_⟩) hHeld2 ?_
                  rotate_left
                  · intro w hSw
                    (try dsimp only at hSw)
                    go_simp
                    (try with_reducible rfl)
                  (try simp only [Act.put, List.setIfInBounds_toArray, List.set_cons_zero, List.set_cons_succ])
                  refine wpAnyH_take (i := 18) (oi := { dst := some 107, op := Go.Op.move (Go.Operand.tmp 106), type := 4, pos := "law.go:90", after := #[{ on := 17, ground := Go.Ground.data }, { on := 15, ground := Go.Ground.chain }, { on := 15, ground := Go.Ground.guard }], guard := some (15, false) }) (v := ?_) rfl (by kernel_rfl) (by kernel_rfl) (by kernel_rfl) (fun _ _ _ h => h) (Or.inl ⟨by rfl, ?_⟩) hHeld2 ?_
                  rotate_left
                  · intro w hSw
                    (try dsimp only at hSw)
                    go_simp
                    (try with_reducible rfl)
                  (try simp only [Act.put, List.setIfInBounds_toArray, List.set_cons_zero, List.set_cons_succ])
                  refine wpAnyH_take (i := 19) (oi := { dst := some 108, op := Go.Op.move (Go.Operand.tmp 9), type := 22, pos := "law.go:90", after := #[{ on := 18, ground := Go.Ground.guard }], guard := some (18, true) }) (v := ?_) rfl (by kernel_rfl) (by kernel_rfl) (by kernel_rfl) (fun _ _ _ h => h) (Or.inl ⟨by rfl, ?_⟩) hHeld2 ?_
                  rotate_left
                  · intro w hSw
                    (try dsimp only at hSw)
                    go_simp
                    (try with_reducible rfl)
                  (try simp only [Act.put, List.setIfInBounds_toArray, List.set_cons_zero, List.set_cons_succ])
                  refine wpAnyH_take (i := 20) (oi := { dst := some 109, op := Go.Op.move (Go.Operand.tmp 12), type := 3, pos := "law.go:90", after := #[{ on := 18, ground := Go.Ground.guard }], guard := some (18, true) }) (v := ?_) rfl (by kernel_rfl) (by kernel_rfl) (by kernel_rfl) (fun _ _ _ h => h) (Or.inl ⟨by rfl, ?_⟩) hHeld2 ?_
                  rotate_left
                  · intro w hSw
                    (try dsimp only at hSw)
                    go_simp
                    (try with_reducible rfl)
                  (try simp only [Act.put, List.setIfInBounds_toArray, List.set_cons_zero, List.set_cons_succ])
                  refine wpAnyH_take (i := 21) (oi := { dst := some 110, op := Go.Op.binOp Go.BinOp.sub 3 (Go.Operand.tmp 109) (Go.Operand.const (Go.Value.int Go.IntKind.i64 1)) 3, type := 3, pos := "law.go:90", after := #[{ on := 20, ground := Go.Ground.data }, { on := 18, ground := Go.Ground.guard }], guard := some (18, true) }) (v := ?_) rfl (by kernel_rfl) (by kernel_rfl) (by kernel_rfl) (fun _ _ _ h => h) (Or.inl ⟨by rfl, ?_⟩) hHeld2 ?_
                  rotate_left
                  · intro w hSw
                    (try dsimp only at hSw)
                    go_simp
                    (try with_reducible rfl)
                  (try simp only [Act.put, List.setIfInBounds_toArray, List.set_cons_zero, List.set_cons_succ])
                  refine wpAnyH_take (i := 22) (oi := { dst := some 111, op := Go.Op.indexAddr 22 (Go.Operand.tmp 108) (Go.Operand.tmp 110), type := 0, pos := "law.go:90", after := #[{ on := 19, ground := Go.Ground.data }, { on := 21, ground := Go.Ground.data }, { on := 18, ground := Go.Ground.guard }], guard := some (18, true) }) (v := ?_) rfl (by kernel_rfl) (by kernel_rfl) (by kernel_rfl) (fun _ _ _ h => h) (Or.inl ⟨by rfl, ?_⟩) hHeld2 ?_
                  rotate_left
                  · intro w hSw
                    (try dsimp only at hSw)
                    go_simp
                    (try with_reducible rfl)
                  (try simp only [Act.put, List.setIfInBounds_toArray, List.set_cons_zero, List.set_cons_succ])
                  refine wpAnyH_take (i := 23) (oi := { dst := some 112, op := Go.Op.fieldAddr 30 (Go.Operand.tmp 111) 1, type := 0, pos := "law.go:90", after := #[{ on := 22, ground := Go.Ground.data }, { on := 18, ground := Go.Ground.guard }], guard := some (18, true) }) (v := ?_) rfl (by kernel_rfl) (by kernel_rfl) (by kernel_rfl) (fun _ _ _ h => h) (Or.inl ⟨by rfl, ?_⟩) hHeld2 ?_
                  rotate_left
                  · intro w hSw
                    (try dsimp only at hSw)
                    go_simp
                    (try with_reducible rfl)
                  (try simp only [Act.put, List.setIfInBounds_toArray, List.set_cons_zero, List.set_cons_succ])
                  refine wpAnyH_take (i := 24) (oi := { dst := some 113, op := Go.Op.load 3 (Go.Operand.tmp 112), type := 3, pos := "law.go:90", after := #[{ on := 23, ground := Go.Ground.data }, { on := 18, ground := Go.Ground.guard }], guard := some (18, true) }) (v := ?_) rfl (by kernel_rfl) (by kernel_rfl) (by kernel_rfl) (fun _ _ _ h => h) (Or.inl ⟨by rfl, ?_⟩) hHeld2 ?_
                  rotate_left
                  · intro w hSw
                    (try dsimp only at hSw)
                    go_simp
                    (try with_reducible rfl)
                  (try simp only [Act.put, List.setIfInBounds_toArray, List.set_cons_zero, List.set_cons_succ])
                  refine wpAnyH_take (i := 25) (oi := { dst := some 114, op := Go.Op.fieldAddr 30 (Go.Operand.tmp 13) 1, type := 0, pos := "law.go:90", after := #[{ on := 18, ground := Go.Ground.guard }], guard := some (18, true) }) (v := ?_) rfl (by kernel_rfl) (by kernel_rfl) (by kernel_rfl) (fun _ _ _ h => h) (Or.inl ⟨by rfl, ?_⟩) hHeld2 ?_
                  rotate_left
                  · intro w hSw
                    (try dsimp only at hSw)
                    go_simp
                    (try with_reducible rfl)
                  (try simp only [Act.put, List.setIfInBounds_toArray, List.set_cons_zero, List.set_cons_succ])
                  refine wpAnyH_take (i := 26) (oi := { dst := some 115, op := Go.Op.load 3 (Go.Operand.tmp 114), type := 3, pos := "law.go:90", after := #[{ on := 25, ground := Go.Ground.data }, { on := 18, ground := Go.Ground.guard }], guard := some (18, true) }) (v := ?_) rfl (by kernel_rfl) (by kernel_rfl) (by kernel_rfl) (fun _ _ _ h => h) (Or.inl ⟨by rfl, ?_⟩) hHeld2 ?_
                  rotate_left
                  · intro w hSw
                    (try dsimp only at hSw)
                    go_simp
                    (try with_reducible rfl)
                  (try simp only [Act.put, List.setIfInBounds_toArray, List.set_cons_zero, List.set_cons_succ])
                  refine wpAnyH_take (i := 27) (oi := { dst := some 116, op := Go.Op.binOp Go.BinOp.lss 3 (Go.Operand.tmp 113) (Go.Operand.tmp 115) 3, type := 4, pos := "law.go:90", after := #[{ on := 24, ground := Go.Ground.data }, { on := 26, ground := Go.Ground.data }, { on := 18, ground := Go.Ground.guard }], guard := some (18, true) }) (v := ?_) rfl (by kernel_rfl) (by kernel_rfl) (by kernel_rfl) (fun _ _ _ h => h) (Or.inl ⟨by rfl, ?_⟩) hHeld2 ?_
                  rotate_left
                  · intro w hSw
                    (try dsimp only at hSw)
                    go_simp
                    (try with_reducible rfl)
                  (try simp only [Act.put, List.setIfInBounds_toArray, List.set_cons_zero, List.set_cons_succ])
                  refine wpAnyH_take (i := 28) (oi := { dst := some 117, op := Go.Op.move (Go.Operand.tmp 116), type := 4, pos := "law.go:90", after := #[{ on := 27, ground := Go.Ground.data }, { on := 18, ground := Go.Ground.chain }, { on := 18, ground := Go.Ground.guard }], guard := some (18, true) }) (v := ?_) rfl (by kernel_rfl) (by kernel_rfl) (by kernel_rfl) (fun _ _ _ h => h) (Or.inl ⟨by rfl, ?_⟩) hHeld2 ?_
                  rotate_left
                  · intro w hSw
                    (try dsimp only at hSw)
                    go_simp
                    (try with_reducible rfl)
                  (try simp only [Act.put, List.setIfInBounds_toArray, List.set_cons_zero, List.set_cons_succ])
                  refine wpAnyH_take (i := 29) (oi := { dst := some 118, op := Go.Op.move (Go.Operand.tmp 9), type := 22, pos := "law.go:90", after := #[{ on := 28, ground := Go.Ground.guard }], guard := some (28, false) }) (v := ?_) rfl (by kernel_rfl) (by kernel_rfl) (by kernel_rfl) (fun _ _ _ h => h) (Or.inl ⟨by rfl, ?_⟩) hHeld2 ?_
                  rotate_left
                  · intro w hSw
                    (try dsimp only at hSw)
                    go_simp
                    (try with_reducible rfl)
                  (try simp only [Act.put, List.setIfInBounds_toArray, List.set_cons_zero, List.set_cons_succ])
                  refine wpAnyH_take (i := 30) (oi := { dst := some 119, op := Go.Op.move (Go.Operand.tmp 12), type := 3, pos := "law.go:90", after := #[{ on := 28, ground := Go.Ground.guard }], guard := some (28, false) }) (v := ?_) rfl (by kernel_rfl) (by kernel_rfl) (by kernel_rfl) (fun _ _ _ h => h) (Or.inl ⟨by rfl, ?_⟩) hHeld2 ?_
                  rotate_left
                  · intro w hSw
                    (try dsimp only at hSw)
                    go_simp
                    (try with_reducible rfl)
                  (try simp only [Act.put, List.setIfInBounds_toArray, List.set_cons_zero, List.set_cons_succ])
                  refine wpAnyH_take (i := 31) (oi := { dst := some 120, op := Go.Op.binOp Go.BinOp.sub 3 (Go.Operand.tmp 119) (Go.Operand.const (Go.Value.int Go.IntKind.i64 1)) 3, type := 3, pos := "law.go:90", after := #[{ on := 30, ground := Go.Ground.data }, { on := 28, ground := Go.Ground.guard }], guard := some (28, false) }) (v := ?_) rfl (by kernel_rfl) (by kernel_rfl) (by kernel_rfl) (fun _ _ _ h => h) (Or.inl ⟨by rfl, ?_⟩) hHeld2 ?_
                  rotate_left
                  · intro w hSw
                    (try dsimp only at hSw)
                    go_simp
                    (try with_reducible rfl)
                  (try simp only [Act.put, List.setIfInBounds_toArray, List.set_cons_zero, List.set_cons_succ])
                  refine wpAnyH_take (i := 32) (oi := { dst := some 121, op := Go.Op.indexAddr 22 (Go.Operand.tmp 118) (Go.Operand.tmp 120), type := 0, pos := "law.go:90", after := #[{ on := 29, ground := Go.Ground.data }, { on := 31, ground := Go.Ground.data }, { on := 28, ground := Go.Ground.guard }], guard := some (28, false) }) (v := ?_) rfl (by kernel_rfl) (by kernel_rfl) (by kernel_rfl) (fun _ _ _ h => h) (Or.inl ⟨by rfl, ?_⟩) hHeld2 ?_
                  rotate_left
                  · intro w hSw
                    (try dsimp only at hSw)
                    go_simp
                    (try with_reducible rfl)
                  (try simp only [Act.put, List.setIfInBounds_toArray, List.set_cons_zero, List.set_cons_succ])
                  refine wpAnyH_take (i := 33) (oi := { dst := some 122, op := Go.Op.fieldAddr 30 (Go.Operand.tmp 121) 1, type := 0, pos := "law.go:90", after := #[{ on := 32, ground := Go.Ground.data }, { on := 28, ground := Go.Ground.guard }], guard := some (28, false) }) (v := ?_) rfl (by kernel_rfl) (by kernel_rfl) (by kernel_rfl) (fun _ _ _ h => h) (Or.inl ⟨by rfl, ?_⟩) hHeld2 ?_
                  rotate_left
                  · intro w hSw
                    (try dsimp only at hSw)
                    go_simp
                    (try with_reducible rfl)
                  (try simp only [Act.put, List.setIfInBounds_toArray, List.set_cons_zero, List.set_cons_succ])
                  refine wpAnyH_take (i := 34) (oi := { dst := some 123, op := Go.Op.load 3 (Go.Operand.tmp 122), type := 3, pos := "law.go:90", after := #[{ on := 33, ground := Go.Ground.data }, { on := 28, ground := Go.Ground.guard }], guard := some (28, false) }) (v := ?_) rfl (by kernel_rfl) (by kernel_rfl) (by kernel_rfl) (fun _ _ _ h => h) (Or.inl ⟨by rfl, ?_⟩) hHeld2 ?_
                  rotate_left
                  · intro w hSw
                    (try dsimp only at hSw)
                    go_simp
                    (try with_reducible rfl)
                  (try simp only [Act.put, List.setIfInBounds_toArray, List.set_cons_zero, List.set_cons_succ])
                  refine wpAnyH_take (i := 35) (oi := { dst := some 124, op := Go.Op.fieldAddr 30 (Go.Operand.tmp 13) 1, type := 0, pos := "law.go:90", after := #[{ on := 28, ground := Go.Ground.guard }], guard := some (28, false) }) (v := ?_) rfl (by kernel_rfl) (by kernel_rfl) (by kernel_rfl) (fun _ _ _ h => h) (Or.inl ⟨by rfl, ?_⟩) hHeld2 ?_
                  rotate_left
                  · intro w hSw
                    (try dsimp only at hSw)
                    go_simp
                    (try with_reducible rfl)
                  (try simp only [Act.put, List.setIfInBounds_toArray, List.set_cons_zero, List.set_cons_succ])
                  refine wpAnyH_take (i := 36) (oi := { dst := some 125, op := Go.Op.load 3 (Go.Operand.tmp 124), type := 3, pos := "law.go:90", after := #[{ on := 35, ground := Go.Ground.data }, { on := 28, ground := Go.Ground.guard }], guard := some (28, false) }) (v := ?_) rfl (by kernel_rfl) (by kernel_rfl) (by kernel_rfl) (fun _ _ _ h => h) (Or.inl ⟨by rfl, ?_⟩) hHeld2 ?_
                  rotate_left
                  · intro w hSw
                    (try dsimp only at hSw)
                    go_simp
                    (try with_reducible rfl)
                  (try simp only [Act.put, List.setIfInBounds_toArray, List.set_cons_zero, List.set_cons_succ])
                  refine wpAnyH_take (i := 37) (oi := { dst := some 126, op := Go.Op.binOp Go.BinOp.eql 3 (Go.Operand.tmp 123) (Go.Operand.tmp 125) 3, type := 4, pos := "law.go:90", after := #[{ on := 34, ground := Go.Ground.data }, { on := 36, ground := Go.Ground.data }, { on := 28, ground := Go.Ground.guard }], guard := some (28, false) }) (v := ?_) rfl (by kernel_rfl) (by kernel_rfl) (by kernel_rfl) (fun _ _ _ h => h) (Or.inl ⟨by rfl, ?_⟩) hHeld2 ?_
                  rotate_left
                  · intro w hSw
                    (try dsimp only at hSw)
                    go_simp
                    (try with_reducible rfl)
                  (try simp only [Act.put, List.setIfInBounds_toArray, List.set_cons_zero, List.set_cons_succ])
                  refine wpAnyH_take (i := 38) (oi := { dst := some 127, op := Go.Op.move (Go.Operand.tmp 126), type := 4, pos := "law.go:90", after := #[{ on := 37, ground := Go.Ground.data }, { on := 28, ground := Go.Ground.chain }, { on := 28, ground := Go.Ground.guard }], guard := some (28, false) }) (v := ?_) rfl (by kernel_rfl) (by kernel_rfl) (by kernel_rfl) (fun _ _ _ h => h) (Or.inl ⟨by rfl, ?_⟩) hHeld2 ?_
                  rotate_left
                  · intro w hSw
                    (try dsimp only at hSw)
                    go_simp
                    (try with_reducible rfl)
                  (try simp only [Act.put, List.setIfInBounds_toArray, List.set_cons_zero, List.set_cons_succ])
                  refine wpAnyH_take (i := 39) (oi := { dst := some 128, op := Go.Op.move (Go.Operand.tmp 9), type := 22, pos := "law.go:90", after := #[{ on := 38, ground := Go.Ground.guard }], guard := some (38, true) }) (v := undef) rfl (by kernel_rfl) (by kernel_rfl) (by kernel_rfl) (fun _ _ _ h => h) (Or.inr ⟨by rfl, rfl⟩) hHeld2 ?_
                  (try simp only [Act.put, List.setIfInBounds_toArray, List.set_cons_zero, List.set_cons_succ])
                  refine wpAnyH_take (i := 40) (oi := { dst := some 129, op := Go.Op.move (Go.Operand.tmp 12), type := 3, pos := "law.go:90", after := #[{ on := 38, ground := Go.Ground.guard }], guard := some (38, true) }) (v := undef) rfl (by kernel_rfl) (by kernel_rfl) (by kernel_rfl) (fun _ _ _ h => h) (Or.inr ⟨by rfl, rfl⟩) hHeld2 ?_
                  (try simp only [Act.put, List.setIfInBounds_toArray, List.set_cons_zero, List.set_cons_succ])
                  refine wpAnyH_take (i := 41) (oi := { dst := some 130, op := Go.Op.binOp Go.BinOp.sub 3 (Go.Operand.tmp 129) (Go.Operand.const (Go.Value.int Go.IntKind.i64 1)) 3, type := 3, pos := "law.go:90", after := #[{ on := 40, ground := Go.Ground.data }, { on := 38, ground := Go.Ground.guard }], guard := some (38, true) }) (v := undef) rfl (by kernel_rfl) (by kernel_rfl) (by kernel_rfl) (fun _ _ _ h => h) (Or.inr ⟨by rfl, rfl⟩) hHeld2 ?_
                  (try simp only [Act.put, List.setIfInBounds_toArray, List.set_cons_zero, List.set_cons_succ])
                  refine wpAnyH_take (i := 42) (oi := { dst := some 131, op := Go.Op.indexAddr 22 (Go.Operand.tmp 128) (Go.Operand.tmp 130), type := 0, pos := "law.go:90", after := #[{ on := 39, ground := Go.Ground.data }, { on := 41, ground := Go.Ground.data }, { on := 38, ground := Go.Ground.guard }], guard := some (38, true) }) (v := undef) rfl (by kernel_rfl) (by kernel_rfl) (by kernel_rfl) (fun _ _ _ h => h) (Or.inr ⟨by rfl, rfl⟩) hHeld2 ?_
                  (try simp only [Act.put, List.setIfInBounds_toArray, List.set_cons_zero, List.set_cons_succ])
                  refine wpAnyH_take (i := 43) (oi := { dst := some 132, op := Go.Op.fieldAddr 30 (Go.Operand.tmp 131) 0, type := 0, pos := "law.go:90", after := #[{ on := 42, ground := Go.Ground.data }, { on := 38, ground := Go.Ground.guard }], guard := some (38, true) }) (v := undef) rfl (by kernel_rfl) (by kernel_rfl) (by kernel_rfl) (fun _ _ _ h => h) (Or.inr ⟨by rfl, rfl⟩) hHeld2 ?_
                  (try simp only [Act.put, List.setIfInBounds_toArray, List.set_cons_zero, List.set_cons_succ])
                  refine wpAnyH_take (i := 44) (oi := { dst := some 133, op := Go.Op.load 3 (Go.Operand.tmp 132), type := 3, pos := "law.go:90", after := #[{ on := 43, ground := Go.Ground.data }, { on := 38, ground := Go.Ground.guard }], guard := some (38, true) }) (v := undef) rfl (by kernel_rfl) (by kernel_rfl) (by kernel_rfl) (fun _ _ _ h => h) (Or.inr ⟨by rfl, rfl⟩) hHeld2 ?_
                  (try simp only [Act.put, List.setIfInBounds_toArray, List.set_cons_zero, List.set_cons_succ])
                  refine wpAnyH_take (i := 45) (oi := { dst := some 134, op := Go.Op.fieldAddr 30 (Go.Operand.tmp 13) 0, type := 0, pos := "law.go:90", after := #[{ on := 38, ground := Go.Ground.guard }], guard := some (38, true) }) (v := undef) rfl (by kernel_rfl) (by kernel_rfl) (by kernel_rfl) (fun _ _ _ h => h) (Or.inr ⟨by rfl, rfl⟩) hHeld2 ?_
                  (try simp only [Act.put, List.setIfInBounds_toArray, List.set_cons_zero, List.set_cons_succ])
                  refine wpAnyH_take (i := 46) (oi := { dst := some 135, op := Go.Op.load 3 (Go.Operand.tmp 134), type := 3, pos := "law.go:90", after := #[{ on := 45, ground := Go.Ground.data }, { on := 38, ground := Go.Ground.guard }], guard := some (38, true) }) (v := undef) rfl (by kernel_rfl) (by kernel_rfl) (by kernel_rfl) (fun _ _ _ h => h) (Or.inr ⟨by rfl, rfl⟩) hHeld2 ?_
                  (try simp only [Act.put, List.setIfInBounds_toArray, List.set_cons_zero, List.set_cons_succ])
                  refine wpAnyH_take (i := 47) (oi := { dst := some 136, op := Go.Op.binOp Go.BinOp.geq 3 (Go.Operand.tmp 133) (Go.Operand.tmp 135) 3, type := 4, pos := "law.go:90", after := #[{ on := 44, ground := Go.Ground.data }, { on := 46, ground := Go.Ground.data }, { on := 38, ground := Go.Ground.guard }], guard := some (38, true) }) (v := undef) rfl (by kernel_rfl) (by kernel_rfl) (by kernel_rfl) (fun _ _ _ h => h) (Or.inr ⟨by rfl, rfl⟩) hHeld2 ?_
                  (try simp only [Act.put, List.setIfInBounds_toArray, List.set_cons_zero, List.set_cons_succ])
                  refine wpAnyH_take (i := 48) (oi := { dst := some 137, op := Go.Op.pick (Go.Operand.tmp 127) (Go.Operand.tmp 136) (Go.Operand.const (Go.Value.bool false)), type := 4, pos := "law.go:90", after := #[{ on := 38, ground := Go.Ground.data }, { on := 47, ground := Go.Ground.data }, { on := 28, ground := Go.Ground.guard }], guard := some (28, false) }) (v := ?_) rfl (by kernel_rfl) (by kernel_rfl) (by kernel_rfl) (fun _ _ _ h => h) (Or.inl ⟨by rfl, ?_⟩) hHeld2 ?_
                  rotate_left
                  · intro w hSw
                    (try dsimp only at hSw)
                    go_simp
                    (try with_reducible rfl)
                  (try simp only [Act.put, List.setIfInBounds_toArray, List.set_cons_zero, List.set_cons_succ])
                  refine wpAnyH_take (i := 49) (oi := { dst := some 138, op := Go.Op.pick (Go.Operand.tmp 117) (Go.Operand.const (Go.Value.bool true)) (Go.Operand.tmp 137), type := 4, pos := "law.go:90", after := #[{ on := 28, ground := Go.Ground.data }, { on := 48, ground := Go.Ground.data }, { on := 18, ground := Go.Ground.guard }], guard := some (18, true) }) (v := ?_) rfl (by kernel_rfl) (by kernel_rfl) (by kernel_rfl) (fun _ _ _ h => h) (Or.inl ⟨by rfl, ?_⟩) hHeld2 ?_
                  rotate_left
                  · intro w hSw
                    (try dsimp only at hSw)
                    go_simp
                    (try with_reducible rfl)
                  (try simp only [Act.put, List.setIfInBounds_toArray, List.set_cons_zero, List.set_cons_succ])
                  refine wpAnyH_take (i := 50) (oi := { dst := some 139, op := Go.Op.pick (Go.Operand.tmp 107) (Go.Operand.tmp 138) (Go.Operand.const (Go.Value.bool false)), type := 4, pos := "law.go:90", after := #[{ on := 18, ground := Go.Ground.data }, { on := 49, ground := Go.Ground.data }, { on := 15, ground := Go.Ground.guard }], guard := some (15, false) }) (v := ?_) rfl (by kernel_rfl) (by kernel_rfl) (by kernel_rfl) (fun _ _ _ h => h) (Or.inl ⟨by rfl, ?_⟩) hHeld2 ?_
                  rotate_left
                  · intro w hSw
                    (try dsimp only at hSw)
                    go_simp
                    (try with_reducible rfl)
                  (try simp only [Act.put, List.setIfInBounds_toArray, List.set_cons_zero, List.set_cons_succ])
                  refine wpAnyH_take (i := 51) (oi := { dst := some 140, op := Go.Op.pick (Go.Operand.tmp 104) (Go.Operand.const (Go.Value.bool true)) (Go.Operand.tmp 139), type := 4, pos := "law.go:90", after := #[{ on := 15, ground := Go.Ground.data }, { on := 50, ground := Go.Ground.data }], guard := none }) (v := ?_) rfl (by kernel_rfl) (by kernel_rfl) (by kernel_rfl) (fun _ _ _ h => h) (Or.inl ⟨by rfl, ?_⟩) hHeld2 ?_
                  rotate_left
                  · intro w hSw
                    (try dsimp only at hSw)
                    go_simp
                    (try with_reducible rfl)
                  (try simp only [Act.put, List.setIfInBounds_toArray, List.set_cons_zero, List.set_cons_succ])
                  refine wpAnyH_done (by kernel_rfl) ?_ _
                  obtain ⟨y0, y1, y2, y3⟩ := KEEP.out _ hbQ
                  have hm18 := HMX.out _ (HBZ.out _ hbQ)
                  go_wp2_with (at_mapUpdate; refine stop_intro ?_)
                  refine stop_elim ?_
                  refine wpList_mapPut rfl (.tmp 141) (.tmp 143) (.const (.bool true)) 54 (.inl rfl) intK6 Tryz.underlying54 hm18 rfl x.unit rfl true rfl ?_
                  intro w19 hm19 hg19
                  obtain ⟨r1, r2⟩ := HEND.out _ _ hbQ hm19 hg19
                  clear hm19 hg19 hm18
                  go_wp2
                  go_roundw
                  case rel => exact ⟨j + 1 + 1, by omega, by go_num, r1, r2⟩
                  case measure => simp [intOf]; omega
                · have hge : decide (x.unit ≤ y.unit) = false := decide_eq_false (by have := s2 (by simpa using heq); omega)
                  clear s2
                  go_wp2
                  refine wp_region_held_drew (S := (fun W' => W'.cell? ⟨wr.heap.size, 0, none⟩ = some (.int .i64 x.unit) ∧ W'.cell? ⟨wr.heap.size, 1, none⟩ = some (.int .i64 x.score) ∧ W'.cell? ⟨bh, offh + j * 2, none⟩ = some (.int .i64 y.unit) ∧ W'.cell? ⟨bh, offh + j * 2 + 1, none⟩ = some (.int .i64 y.score))) (by kernel_rfl) (by with_reducible exact KEEP.out _ hbQ) (fun hHeld0 => ?_)
                  refine wpAnyH_take (i := 0) (oi := { dst := some 89, op := Go.Op.move (Go.Operand.tmp 15), type := 45, pos := "law.go:90", after := #[], guard := none }) (v := ?_) rfl (by kernel_rfl) (by kernel_rfl) (by kernel_rfl) (fun _ _ _ h => h) (Or.inl ⟨by rfl, ?_⟩) hHeld0 ?_
                  rotate_left
                  · intro w hSw
                    (try dsimp only at hSw)
                    go_simp
                    (try with_reducible rfl)
                  (try simp only [Act.put, List.setIfInBounds_toArray, List.set_cons_zero, List.set_cons_succ])
                  refine wpAnyH_take (i := 1) (oi := { dst := some 90, op := Go.Op.binOp Go.BinOp.neq 45 (Go.Operand.tmp 89) (Go.Operand.const (Go.Value.int Go.IntKind.i64 0)) 45, type := 4, pos := "law.go:90", after := #[{ on := 0, ground := Go.Ground.data }], guard := none }) (v := ?_) rfl (by kernel_rfl) (by kernel_rfl) (by kernel_rfl) (fun _ _ _ h => h) (Or.inl ⟨by rfl, ?_⟩) hHeld0 ?_
                  rotate_left
                  · intro w hSw
                    (try dsimp only at hSw)
                    go_simp
                    (try with_reducible rfl)
                  (try simp only [Act.put, List.setIfInBounds_toArray, List.set_cons_zero, List.set_cons_succ])
                  refine wpAnyH_take (i := 2) (oi := { dst := some 91, op := Go.Op.move (Go.Operand.tmp 90), type := 4, pos := "law.go:90", after := #[{ on := 1, ground := Go.Ground.data }], guard := none }) (v := ?_) rfl (by kernel_rfl) (by kernel_rfl) (by kernel_rfl) (fun _ _ _ h => h) (Or.inl ⟨by rfl, ?_⟩) hHeld0 ?_
                  rotate_left
                  · intro w hSw
                    (try dsimp only at hSw)
                    go_simp
                    (try with_reducible rfl)
                  (try simp only [Act.put, List.setIfInBounds_toArray, List.set_cons_zero, List.set_cons_succ])
                  refine wpAnyH_take (i := 3) (oi := { dst := some 92, op := Go.Op.fieldAddr 30 (Go.Operand.tmp 13) 1, type := 0, pos := "law.go:90", after := #[{ on := 2, ground := Go.Ground.guard }], guard := some (2, false) }) (v := ?_) rfl (by kernel_rfl) (by kernel_rfl) (by kernel_rfl) (fun _ _ _ h => h) (Or.inl ⟨by rfl, ?_⟩) hHeld0 ?_
                  rotate_left
                  · intro w hSw
                    (try dsimp only at hSw)
                    go_simp
                    (try with_reducible rfl)
                  (try simp only [Act.put, List.setIfInBounds_toArray, List.set_cons_zero, List.set_cons_succ])
                  refine wpAnyH_take (i := 4) (oi := { dst := some 93, op := Go.Op.load 3 (Go.Operand.tmp 92), type := 3, pos := "law.go:90", after := #[{ on := 3, ground := Go.Ground.data }, { on := 2, ground := Go.Ground.guard }], guard := some (2, false) }) (v := ?_) rfl (by kernel_rfl) (by kernel_rfl) (by kernel_rfl) (fun _ _ _ h => h) (Or.inl ⟨by rfl, ?_⟩) hHeld0 ?_
                  rotate_left
                  · intro w hSw
                    (try dsimp only at hSw)
                    go_simp
                    (try with_reducible rfl)
                  (try simp only [Act.put, List.setIfInBounds_toArray, List.set_cons_zero, List.set_cons_succ])
                  refine wpAnyH_take (i := 5) (oi := { dst := some 94, op := Go.Op.move (Go.Operand.tmp 14), type := 23, pos := "law.go:90", after := #[{ on := 2, ground := Go.Ground.guard }], guard := some (2, false) }) (v := ?_) rfl (by kernel_rfl) (by kernel_rfl) (by kernel_rfl) (fun _ _ _ h => h) (Or.inl ⟨by rfl, ?_⟩) hHeld0 ?_
                  rotate_left
                  · intro w hSw
                    (try dsimp only at hSw)
                    go_simp
                    (try with_reducible rfl)
                  (try simp only [Act.put, List.setIfInBounds_toArray, List.set_cons_zero, List.set_cons_succ])
                  refine wpAnyH_ready (rs := [6]) (by kernel_rfl) (by simp) ?_
                  refine AllReadyH.cons (o := { dst := some 95, op := Go.Op.call { callee := Go.Callee.value (Go.Operand.func 25), args := #[Go.Operand.tmp 94], argTypes := #[23] }, type := 3, pos := "law.go:90", after := #[{ on := 5, ground := Go.Ground.data }, { on := 2, ground := Go.Ground.chain }, { on := 2, ground := Go.Ground.guard }], guard := some (2, false) }) rfl (fun K hK => ?_) AllReadyH.nil
                  go_simp
                  go_at_call 25
                  (with_reducible refine (HSC.out _ hbQ).mono ?_)
                  rintro e w18 ⟨rfl, hb18⟩
                  have hbQ := hbQ.trans (hb18.mono hbQ.size)
                  have hlk := HLK.out _ hbQ
                  refine hK.out _ _ (by with_reducible exact KEEP.out _ hbQ) (fun hHeld1 => ?_)
                  clear hK K hHeld0
                  (try simp only [Act.put, List.setIfInBounds_toArray, List.set_cons_zero, List.set_cons_succ])
                  refine wpAnyH_take (i := 7) (oi := { dst := some 96, op := Go.Op.binOp Go.BinOp.neq 3 (Go.Operand.tmp 93) (Go.Operand.tmp 95) 3, type := 4, pos := "law.go:90", after := #[{ on := 4, ground := Go.Ground.data }, { on := 6, ground := Go.Ground.data }, { on := 2, ground := Go.Ground.guard }], guard := some (2, false) }) (v := ?_) rfl (by kernel_rfl) (by kernel_rfl) (by kernel_rfl) (fun _ _ _ h => h) (Or.inl ⟨by rfl, ?_⟩) hHeld1 ?_
                  rotate_left
                  · intro w hSw
                    (try dsimp only at hSw)
                    go_simp
                    (try with_reducible rfl)
                  (try simp only [Act.put, List.setIfInBounds_toArray, List.set_cons_zero, List.set_cons_succ])
                  refine wpAnyH_take (i := 8) (oi := { dst := some 97, op := Go.Op.pick (Go.Operand.tmp 91) (Go.Operand.const (Go.Value.bool true)) (Go.Operand.tmp 96), type := 4, pos := "law.go:90", after := #[{ on := 2, ground := Go.Ground.data }, { on := 7, ground := Go.Ground.data }], guard := none }) (v := ?_) rfl (by kernel_rfl) (by kernel_rfl) (by kernel_rfl) (fun _ _ _ h => h) (Or.inl ⟨by rfl, ?_⟩) hHeld1 ?_
                  rotate_left
                  · intro w hSw
                    (try dsimp only at hSw)
                    go_simp
                    (try with_reducible rfl)
                  (try simp only [Act.put, List.setIfInBounds_toArray, List.set_cons_zero, List.set_cons_succ])
                  refine wpAnyH_take (i := 9) (oi := { dst := some 98, op := Go.Op.move (Go.Operand.tmp 97), type := 4, pos := "law.go:90", after := #[{ on := 8, ground := Go.Ground.data }, { on := 6, ground := Go.Ground.chain }], guard := none }) (v := ?_) rfl (by kernel_rfl) (by kernel_rfl) (by kernel_rfl) (fun _ _ _ h => h) (Or.inl ⟨by rfl, ?_⟩) hHeld1 ?_
                  rotate_left
                  · intro w hSw
                    (try dsimp only at hSw)
                    go_simp
                    (try with_reducible rfl)
                  (try simp only [Act.put, List.setIfInBounds_toArray, List.set_cons_zero, List.set_cons_succ])
                  refine wpAnyH_take (i := 10) (oi := { dst := some 99, op := Go.Op.move (Go.Operand.tmp 11), type := 54, pos := "law.go:90", after := #[{ on := 9, ground := Go.Ground.guard }], guard := some (9, false) }) (v := ?_) rfl (by kernel_rfl) (by kernel_rfl) (by kernel_rfl) (fun _ _ _ h => h) (Or.inl ⟨by rfl, ?_⟩) hHeld1 ?_
                  rotate_left
                  · intro w hSw
                    (try dsimp only at hSw)
                    go_simp
                    (try with_reducible rfl)
                  (try simp only [Act.put, List.setIfInBounds_toArray, List.set_cons_zero, List.set_cons_succ])
                  refine wpAnyH_take (i := 11) (oi := { dst := some 100, op := Go.Op.fieldAddr 30 (Go.Operand.tmp 13) 0, type := 0, pos := "law.go:90", after := #[{ on := 9, ground := Go.Ground.guard }], guard := some (9, false) }) (v := ?_) rfl (by kernel_rfl) (by kernel_rfl) (by kernel_rfl) (fun _ _ _ h => h) (Or.inl ⟨by rfl, ?_⟩) hHeld1 ?_
                  rotate_left
                  · intro w hSw
                    (try dsimp only at hSw)
                    go_simp
                    (try with_reducible rfl)
                  (try simp only [Act.put, List.setIfInBounds_toArray, List.set_cons_zero, List.set_cons_succ])
                  refine wpAnyH_take (i := 12) (oi := { dst := some 101, op := Go.Op.load 3 (Go.Operand.tmp 100), type := 3, pos := "law.go:90", after := #[{ on := 11, ground := Go.Ground.data }, { on := 9, ground := Go.Ground.guard }], guard := some (9, false) }) (v := ?_) rfl (by kernel_rfl) (by kernel_rfl) (by kernel_rfl) (fun _ _ _ h => h) (Or.inl ⟨by rfl, ?_⟩) hHeld1 ?_
                  rotate_left
                  · intro w hSw
                    (try dsimp only at hSw)
                    go_simp
                    (try with_reducible rfl)
                  (try simp only [Act.put, List.setIfInBounds_toArray, List.set_cons_zero, List.set_cons_succ])
                  refine wpAnyH_ready (rs := [13]) (by kernel_rfl) (by simp) ?_
                  refine AllReadyH.cons (o := { dst := some 102, op := Go.Op.lookup 54 (Go.Operand.tmp 99) (Go.Operand.tmp 101) false, type := 4, pos := "law.go:90", after := #[{ on := 10, ground := Go.Ground.data }, { on := 12, ground := Go.Ground.data }, { on := 9, ground := Go.Ground.guard }], guard := some (9, false) }) rfl (fun K hK => ?_) AllReadyH.nil
                  go_simp
                  refine hK.out _ _ (by with_reducible exact KEEP.out _ hbQ) (fun hHeld2 => ?_)
                  clear hK K hHeld1
                  (try simp only [Act.put, List.setIfInBounds_toArray, List.set_cons_zero, List.set_cons_succ])
                  refine wpAnyH_take (i := 14) (oi := { dst := some 103, op := Go.Op.pick (Go.Operand.tmp 98) (Go.Operand.const (Go.Value.bool true)) (Go.Operand.tmp 102), type := 4, pos := "law.go:90", after := #[{ on := 9, ground := Go.Ground.data }, { on := 13, ground := Go.Ground.data }], guard := none }) (v := ?_) rfl (by kernel_rfl) (by kernel_rfl) (by kernel_rfl) (fun _ _ _ h => h) (Or.inl ⟨by rfl, ?_⟩) hHeld2 ?_
                  rotate_left
                  · intro w hSw
                    (try dsimp only at hSw)
                    go_simp
                    (try with_reducible rfl)
                  (try simp only [Act.put, List.setIfInBounds_toArray, List.set_cons_zero, List.set_cons_succ])
                  refine wpAnyH_take (i := 15) (oi := { dst := some 104, op := Go.Op.move (Go.Operand.tmp 103), type := 4, pos := "law.go:90", after := #[{ on := 14, ground := Go.Ground.data }, { on := 9, ground := Go.Ground.chain }], guard := none }) (v := ?_) rfl (by kernel_rfl) (by kernel_rfl) (by kernel_rfl) (fun _ _ _ h => h) (Or.inl ⟨by rfl, ?_⟩) hHeld2 ?_
                  rotate_left
                  · intro w hSw
                    (try dsimp only at hSw)
                    go_simp
                    (try with_reducible rfl)
                  (try simp only [Act.put, List.setIfInBounds_toArray, List.set_cons_zero, List.set_cons_succ])
                  refine wpAnyH_take (i := 16) (oi := { dst := some 105, op := Go.Op.move (Go.Operand.tmp 12), type := 3, pos := "law.go:90", after := #[{ on := 15, ground := Go.Ground.guard }], guard := some (15, false) }) (v := ?_) rfl (by kernel_rfl) (by kernel_rfl) (by kernel_rfl) (fun _ _ _ h => h) (Or.inl ⟨by rfl, ?_⟩) hHeld2 ?_
                  rotate_left
                  · intro w hSw
                    (try dsimp only at hSw)
                    go_simp
                    (try with_reducible rfl)
                  (try simp only [Act.put, List.setIfInBounds_toArray, List.set_cons_zero, List.set_cons_succ])
                  refine wpAnyH_take (i := 17) (oi := { dst := some 106, op := Go.Op.binOp Go.BinOp.gtr 3 (Go.Operand.tmp 105) (Go.Operand.const (Go.Value.int Go.IntKind.i64 0)) 3, type := 4, pos := "law.go:90", after := #[{ on := 16, ground := Go.Ground.data }, { on := 15, ground := Go.Ground.guard }], guard := some (15, false) }) (v := ?_) rfl (by kernel_rfl) (by kernel_rfl) (by kernel_rfl) (fun _ _ _ h => h) (Or.inl ⟨by rfl, ?_⟩) hHeld2 ?_
                  rotate_left
                  · intro w hSw
                    (try dsimp only at hSw)
                    go_simp
                    (try with_reducible rfl)
                  (try simp only [Act.put, List.setIfInBounds_toArray, List.set_cons_zero, List.set_cons_succ])
                  refine wpAnyH_take (i := 18) (oi := { dst := some 107, op := Go.Op.move (Go.Operand.tmp 106), type := 4, pos := "law.go:90", after := #[{ on := 17, ground := Go.Ground.data }, { on := 15, ground := Go.Ground.chain }, { on := 15, ground := Go.Ground.guard }], guard := some (15, false) }) (v := ?_) rfl (by kernel_rfl) (by kernel_rfl) (by kernel_rfl) (fun _ _ _ h => h) (Or.inl ⟨by rfl, ?_⟩) hHeld2 ?_
                  rotate_left
                  · intro w hSw
                    (try dsimp only at hSw)
                    go_simp
                    (try with_reducible rfl)
                  (try simp only [Act.put, List.setIfInBounds_toArray, List.set_cons_zero, List.set_cons_succ])
                  refine wpAnyH_take (i := 19) (oi := { dst := some 108, op := Go.Op.move (Go.Operand.tmp 9), type := 22, pos := "law.go:90", after := #[{ on := 18, ground := Go.Ground.guard }], guard := some (18, true) }) (v := ?_) rfl (by kernel_rfl) (by kernel_rfl) (by kernel_rfl) (fun _ _ _ h => h) (Or.inl ⟨by rfl, ?_⟩) hHeld2 ?_
                  rotate_left
                  · intro w hSw
                    (try dsimp only at hSw)
                    go_simp
                    (try with_reducible rfl)
                  (try simp only [Act.put, List.setIfInBounds_toArray, List.set_cons_zero, List.set_cons_succ])
                  refine wpAnyH_take (i := 20) (oi := { dst := some 109, op := Go.Op.move (Go.Operand.tmp 12), type := 3, pos := "law.go:90", after := #[{ on := 18, ground := Go.Ground.guard }], guard := some (18, true) }) (v := ?_) rfl (by kernel_rfl) (by kernel_rfl) (by kernel_rfl) (fun _ _ _ h => h) (Or.inl ⟨by rfl, ?_⟩) hHeld2 ?_
                  rotate_left
                  · intro w hSw
                    (try dsimp only at hSw)
                    go_simp
                    (try with_reducible rfl)
                  (try simp only [Act.put, List.setIfInBounds_toArray, List.set_cons_zero, List.set_cons_succ])
                  refine wpAnyH_take (i := 21) (oi := { dst := some 110, op := Go.Op.binOp Go.BinOp.sub 3 (Go.Operand.tmp 109) (Go.Operand.const (Go.Value.int Go.IntKind.i64 1)) 3, type := 3, pos := "law.go:90", after := #[{ on := 20, ground := Go.Ground.data }, { on := 18, ground := Go.Ground.guard }], guard := some (18, true) }) (v := ?_) rfl (by kernel_rfl) (by kernel_rfl) (by kernel_rfl) (fun _ _ _ h => h) (Or.inl ⟨by rfl, ?_⟩) hHeld2 ?_
                  rotate_left
                  · intro w hSw
                    (try dsimp only at hSw)
                    go_simp
                    (try with_reducible rfl)
                  (try simp only [Act.put, List.setIfInBounds_toArray, List.set_cons_zero, List.set_cons_succ])
                  refine wpAnyH_take (i := 22) (oi := { dst := some 111, op := Go.Op.indexAddr 22 (Go.Operand.tmp 108) (Go.Operand.tmp 110), type := 0, pos := "law.go:90", after := #[{ on := 19, ground := Go.Ground.data }, { on := 21, ground := Go.Ground.data }, { on := 18, ground := Go.Ground.guard }], guard := some (18, true) }) (v := ?_) rfl (by kernel_rfl) (by kernel_rfl) (by kernel_rfl) (fun _ _ _ h => h) (Or.inl ⟨by rfl, ?_⟩) hHeld2 ?_
                  rotate_left
                  · intro w hSw
                    (try dsimp only at hSw)
                    go_simp
                    (try with_reducible rfl)
                  (try simp only [Act.put, List.setIfInBounds_toArray, List.set_cons_zero, List.set_cons_succ])
                  refine wpAnyH_take (i := 23) (oi := { dst := some 112, op := Go.Op.fieldAddr 30 (Go.Operand.tmp 111) 1, type := 0, pos := "law.go:90", after := #[{ on := 22, ground := Go.Ground.data }, { on := 18, ground := Go.Ground.guard }], guard := some (18, true) }) (v := ?_) rfl (by kernel_rfl) (by kernel_rfl) (by kernel_rfl) (fun _ _ _ h => h) (Or.inl ⟨by rfl, ?_⟩) hHeld2 ?_
                  rotate_left
                  · intro w hSw
                    (try dsimp only at hSw)
                    go_simp
                    (try with_reducible rfl)
                  (try simp only [Act.put, List.setIfInBounds_toArray, List.set_cons_zero, List.set_cons_succ])
                  refine wpAnyH_take (i := 24) (oi := { dst := some 113, op := Go.Op.load 3 (Go.Operand.tmp 112), type := 3, pos := "law.go:90", after := #[{ on := 23, ground := Go.Ground.data }, { on := 18, ground := Go.Ground.guard }], guard := some (18, true) }) (v := ?_) rfl (by kernel_rfl) (by kernel_rfl) (by kernel_rfl) (fun _ _ _ h => h) (Or.inl ⟨by rfl, ?_⟩) hHeld2 ?_
                  rotate_left
                  · intro w hSw
                    (try dsimp only at hSw)
                    go_simp
                    (try with_reducible rfl)
                  (try simp only [Act.put, List.setIfInBounds_toArray, List.set_cons_zero, List.set_cons_succ])
                  refine wpAnyH_take (i := 25) (oi := { dst := some 114, op := Go.Op.fieldAddr 30 (Go.Operand.tmp 13) 1, type := 0, pos := "law.go:90", after := #[{ on := 18, ground := Go.Ground.guard }], guard := some (18, true) }) (v := ?_) rfl (by kernel_rfl) (by kernel_rfl) (by kernel_rfl) (fun _ _ _ h => h) (Or.inl ⟨by rfl, ?_⟩) hHeld2 ?_
                  rotate_left
                  · intro w hSw
                    (try dsimp only at hSw)
                    go_simp
                    (try with_reducible rfl)
                  (try simp only [Act.put, List.setIfInBounds_toArray, List.set_cons_zero, List.set_cons_succ])
                  refine wpAnyH_take (i := 26) (oi := { dst := some 115, op := Go.Op.load 3 (Go.Operand.tmp 114), type := 3, pos := "law.go:90", after := #[{ on := 25, ground := Go.Ground.data }, { on := 18, ground := Go.Ground.guard }], guard := some (18, true) }) (v := ?_) rfl (by kernel_rfl) (by kernel_rfl) (by kernel_rfl) (fun _ _ _ h => h) (Or.inl ⟨by rfl, ?_⟩) hHeld2 ?_
                  rotate_left
                  · intro w hSw
                    (try dsimp only at hSw)
                    go_simp
                    (try with_reducible rfl)
                  (try simp only [Act.put, List.setIfInBounds_toArray, List.set_cons_zero, List.set_cons_succ])
                  refine wpAnyH_take (i := 27) (oi := { dst := some 116, op := Go.Op.binOp Go.BinOp.lss 3 (Go.Operand.tmp 113) (Go.Operand.tmp 115) 3, type := 4, pos := "law.go:90", after := #[{ on := 24, ground := Go.Ground.data }, { on := 26, ground := Go.Ground.data }, { on := 18, ground := Go.Ground.guard }], guard := some (18, true) }) (v := ?_) rfl (by kernel_rfl) (by kernel_rfl) (by kernel_rfl) (fun _ _ _ h => h) (Or.inl ⟨by rfl, ?_⟩) hHeld2 ?_
                  rotate_left
                  · intro w hSw
                    (try dsimp only at hSw)
                    go_simp
                    (try with_reducible rfl)
                  (try simp only [Act.put, List.setIfInBounds_toArray, List.set_cons_zero, List.set_cons_succ])
                  refine wpAnyH_take (i := 28) (oi := { dst := some 117, op := Go.Op.move (Go.Operand.tmp 116), type := 4, pos := "law.go:90", after := #[{ on := 27, ground := Go.Ground.data }, { on := 18, ground := Go.Ground.chain }, { on := 18, ground := Go.Ground.guard }], guard := some (18, true) }) (v := ?_) rfl (by kernel_rfl) (by kernel_rfl) (by kernel_rfl) (fun _ _ _ h => h) (Or.inl ⟨by rfl, ?_⟩) hHeld2 ?_
                  rotate_left
                  · intro w hSw
                    (try dsimp only at hSw)
                    go_simp
                    (try with_reducible rfl)
                  (try simp only [Act.put, List.setIfInBounds_toArray, List.set_cons_zero, List.set_cons_succ])
                  refine wpAnyH_take (i := 29) (oi := { dst := some 118, op := Go.Op.move (Go.Operand.tmp 9), type := 22, pos := "law.go:90", after := #[{ on := 28, ground := Go.Ground.guard }], guard := some (28, false) }) (v := ?_) rfl (by kernel_rfl) (by kernel_rfl) (by kernel_rfl) (fun _ _ _ h => h) (Or.inl ⟨by rfl, ?_⟩) hHeld2 ?_
                  rotate_left
                  · intro w hSw
                    (try dsimp only at hSw)
                    go_simp
                    (try with_reducible rfl)
                  (try simp only [Act.put, List.setIfInBounds_toArray, List.set_cons_zero, List.set_cons_succ])
                  refine wpAnyH_take (i := 30) (oi := { dst := some 119, op := Go.Op.move (Go.Operand.tmp 12), type := 3, pos := "law.go:90", after := #[{ on := 28, ground := Go.Ground.guard }], guard := some (28, false) }) (v := ?_) rfl (by kernel_rfl) (by kernel_rfl) (by kernel_rfl) (fun _ _ _ h => h) (Or.inl ⟨by rfl, ?_⟩) hHeld2 ?_
                  rotate_left
                  · intro w hSw
                    (try dsimp only at hSw)
                    go_simp
                    (try with_reducible rfl)
                  (try simp only [Act.put, List.setIfInBounds_toArray, List.set_cons_zero, List.set_cons_succ])
                  refine wpAnyH_take (i := 31) (oi := { dst := some 120, op := Go.Op.binOp Go.BinOp.sub 3 (Go.Operand.tmp 119) (Go.Operand.const (Go.Value.int Go.IntKind.i64 1)) 3, type := 3, pos := "law.go:90", after := #[{ on := 30, ground := Go.Ground.data }, { on := 28, ground := Go.Ground.guard }], guard := some (28, false) }) (v := ?_) rfl (by kernel_rfl) (by kernel_rfl) (by kernel_rfl) (fun _ _ _ h => h) (Or.inl ⟨by rfl, ?_⟩) hHeld2 ?_
                  rotate_left
                  · intro w hSw
                    (try dsimp only at hSw)
                    go_simp
                    (try with_reducible rfl)
                  (try simp only [Act.put, List.setIfInBounds_toArray, List.set_cons_zero, List.set_cons_succ])
                  refine wpAnyH_take (i := 32) (oi := { dst := some 121, op := Go.Op.indexAddr 22 (Go.Operand.tmp 118) (Go.Operand.tmp 120), type := 0, pos := "law.go:90", after := #[{ on := 29, ground := Go.Ground.data }, { on := 31, ground := Go.Ground.data }, { on := 28, ground := Go.Ground.guard }], guard := some (28, false) }) (v := ?_) rfl (by kernel_rfl) (by kernel_rfl) (by kernel_rfl) (fun _ _ _ h => h) (Or.inl ⟨by rfl, ?_⟩) hHeld2 ?_
                  rotate_left
                  · intro w hSw
                    (try dsimp only at hSw)
                    go_simp
                    (try with_reducible rfl)
                  (try simp only [Act.put, List.setIfInBounds_toArray, List.set_cons_zero, List.set_cons_succ])
                  refine wpAnyH_take (i := 33) (oi := { dst := some 122, op := Go.Op.fieldAddr 30 (Go.Operand.tmp 121) 1, type := 0, pos := "law.go:90", after := #[{ on := 32, ground := Go.Ground.data }, { on := 28, ground := Go.Ground.guard }], guard := some (28, false) }) (v := ?_) rfl (by kernel_rfl) (by kernel_rfl) (by kernel_rfl) (fun _ _ _ h => h) (Or.inl ⟨by rfl, ?_⟩) hHeld2 ?_
                  rotate_left
                  · intro w hSw
                    (try dsimp only at hSw)
                    go_simp
                    (try with_reducible rfl)
                  (try simp only [Act.put, List.setIfInBounds_toArray, List.set_cons_zero, List.set_cons_succ])
                  refine wpAnyH_take (i := 34) (oi := { dst := some 123, op := Go.Op.load 3 (Go.Operand.tmp 122), type := 3, pos := "law.go:90", after := #[{ on := 33, ground := Go.Ground.data }, { on := 28, ground := Go.Ground.guard }], guard := some (28, false) }) (v := ?_) rfl (by kernel_rfl) (by kernel_rfl) (by kernel_rfl) (fun _ _ _ h => h) (Or.inl ⟨by rfl, ?_⟩) hHeld2 ?_
                  rotate_left
                  · intro w hSw
                    (try dsimp only at hSw)
                    go_simp
                    (try with_reducible rfl)
                  (try simp only [Act.put, List.setIfInBounds_toArray, List.set_cons_zero, List.set_cons_succ])
                  refine wpAnyH_take (i := 35) (oi := { dst := some 124, op := Go.Op.fieldAddr 30 (Go.Operand.tmp 13) 1, type := 0, pos := "law.go:90", after := #[{ on := 28, ground := Go.Ground.guard }], guard := some (28, false) }) (v := ?_) rfl (by kernel_rfl) (by kernel_rfl) (by kernel_rfl) (fun _ _ _ h => h) (Or.inl ⟨by rfl, ?_⟩) hHeld2 ?_
                  rotate_left
                  · intro w hSw
                    (try dsimp only at hSw)
                    go_simp
                    (try with_reducible rfl)
                  (try simp only [Act.put, List.setIfInBounds_toArray, List.set_cons_zero, List.set_cons_succ])
                  refine wpAnyH_take (i := 36) (oi := { dst := some 125, op := Go.Op.load 3 (Go.Operand.tmp 124), type := 3, pos := "law.go:90", after := #[{ on := 35, ground := Go.Ground.data }, { on := 28, ground := Go.Ground.guard }], guard := some (28, false) }) (v := ?_) rfl (by kernel_rfl) (by kernel_rfl) (by kernel_rfl) (fun _ _ _ h => h) (Or.inl ⟨by rfl, ?_⟩) hHeld2 ?_
                  rotate_left
                  · intro w hSw
                    (try dsimp only at hSw)
                    go_simp
                    (try with_reducible rfl)
                  (try simp only [Act.put, List.setIfInBounds_toArray, List.set_cons_zero, List.set_cons_succ])
                  refine wpAnyH_take (i := 37) (oi := { dst := some 126, op := Go.Op.binOp Go.BinOp.eql 3 (Go.Operand.tmp 123) (Go.Operand.tmp 125) 3, type := 4, pos := "law.go:90", after := #[{ on := 34, ground := Go.Ground.data }, { on := 36, ground := Go.Ground.data }, { on := 28, ground := Go.Ground.guard }], guard := some (28, false) }) (v := ?_) rfl (by kernel_rfl) (by kernel_rfl) (by kernel_rfl) (fun _ _ _ h => h) (Or.inl ⟨by rfl, ?_⟩) hHeld2 ?_
                  rotate_left
                  · intro w hSw
                    (try dsimp only at hSw)
                    go_simp
                    (try with_reducible rfl)
                  (try simp only [Act.put, List.setIfInBounds_toArray, List.set_cons_zero, List.set_cons_succ])
                  refine wpAnyH_take (i := 38) (oi := { dst := some 127, op := Go.Op.move (Go.Operand.tmp 126), type := 4, pos := "law.go:90", after := #[{ on := 37, ground := Go.Ground.data }, { on := 28, ground := Go.Ground.chain }, { on := 28, ground := Go.Ground.guard }], guard := some (28, false) }) (v := ?_) rfl (by kernel_rfl) (by kernel_rfl) (by kernel_rfl) (fun _ _ _ h => h) (Or.inl ⟨by rfl, ?_⟩) hHeld2 ?_
                  rotate_left
                  · intro w hSw
                    (try dsimp only at hSw)
                    go_simp
                    (try with_reducible rfl)
                  (try simp only [Act.put, List.setIfInBounds_toArray, List.set_cons_zero, List.set_cons_succ])
                  refine wpAnyH_take (i := 39) (oi := { dst := some 128, op := Go.Op.move (Go.Operand.tmp 9), type := 22, pos := "law.go:90", after := #[{ on := 38, ground := Go.Ground.guard }], guard := some (38, true) }) (v := ?_) rfl (by kernel_rfl) (by kernel_rfl) (by kernel_rfl) (fun _ _ _ h => h) (Or.inl ⟨by rfl, ?_⟩) hHeld2 ?_
                  rotate_left
                  · intro w hSw
                    (try dsimp only at hSw)
                    go_simp
                    (try with_reducible rfl)
                  (try simp only [Act.put, List.setIfInBounds_toArray, List.set_cons_zero, List.set_cons_succ])
                  refine wpAnyH_take (i := 40) (oi := { dst := some 129, op := Go.Op.move (Go.Operand.tmp 12), type := 3, pos := "law.go:90", after := #[{ on := 38, ground := Go.Ground.guard }], guard := some (38, true) }) (v := ?_) rfl (by kernel_rfl) (by kernel_rfl) (by kernel_rfl) (fun _ _ _ h => h) (Or.inl ⟨by rfl, ?_⟩) hHeld2 ?_
                  rotate_left
                  · intro w hSw
                    (try dsimp only at hSw)
                    go_simp
                    (try with_reducible rfl)
                  (try simp only [Act.put, List.setIfInBounds_toArray, List.set_cons_zero, List.set_cons_succ])
                  refine wpAnyH_take (i := 41) (oi := { dst := some 130, op := Go.Op.binOp Go.BinOp.sub 3 (Go.Operand.tmp 129) (Go.Operand.const (Go.Value.int Go.IntKind.i64 1)) 3, type := 3, pos := "law.go:90", after := #[{ on := 40, ground := Go.Ground.data }, { on := 38, ground := Go.Ground.guard }], guard := some (38, true) }) (v := ?_) rfl (by kernel_rfl) (by kernel_rfl) (by kernel_rfl) (fun _ _ _ h => h) (Or.inl ⟨by rfl, ?_⟩) hHeld2 ?_
                  rotate_left
                  · intro w hSw
                    (try dsimp only at hSw)
                    go_simp
                    (try with_reducible rfl)
                  (try simp only [Act.put, List.setIfInBounds_toArray, List.set_cons_zero, List.set_cons_succ])
                  refine wpAnyH_take (i := 42) (oi := { dst := some 131, op := Go.Op.indexAddr 22 (Go.Operand.tmp 128) (Go.Operand.tmp 130), type := 0, pos := "law.go:90", after := #[{ on := 39, ground := Go.Ground.data }, { on := 41, ground := Go.Ground.data }, { on := 38, ground := Go.Ground.guard }], guard := some (38, true) }) (v := ?_) rfl (by kernel_rfl) (by kernel_rfl) (by kernel_rfl) (fun _ _ _ h => h) (Or.inl ⟨by rfl, ?_⟩) hHeld2 ?_
                  rotate_left
                  · intro w hSw
                    (try dsimp only at hSw)
                    go_simp
                    (try with_reducible rfl)
                  (try simp only [Act.put, List.setIfInBounds_toArray, List.set_cons_zero, List.set_cons_succ])
                  refine wpAnyH_take (i := 43) (oi := { dst := some 132, op := Go.Op.fieldAddr 30 (Go.Operand.tmp 131) 0, type := 0, pos := "law.go:90", after := #[{ on := 42, ground := Go.Ground.data }, { on := 38, ground := Go.Ground.guard }], guard := some (38, true) }) (v := ?_) rfl (by kernel_rfl) (by kernel_rfl) (by kernel_rfl) (fun _ _ _ h => h) (Or.inl ⟨by rfl, ?_⟩) hHeld2 ?_
                  rotate_left
                  · intro w hSw
                    (try dsimp only at hSw)
                    go_simp
                    (try with_reducible rfl)
                  (try simp only [Act.put, List.setIfInBounds_toArray, List.set_cons_zero, List.set_cons_succ])
                  refine wpAnyH_take (i := 44) (oi := { dst := some 133, op := Go.Op.load 3 (Go.Operand.tmp 132), type := 3, pos := "law.go:90", after := #[{ on := 43, ground := Go.Ground.data }, { on := 38, ground := Go.Ground.guard }], guard := some (38, true) }) (v := ?_) rfl (by kernel_rfl) (by kernel_rfl) (by kernel_rfl) (fun _ _ _ h => h) (Or.inl ⟨by rfl, ?_⟩) hHeld2 ?_
                  rotate_left
                  · intro w hSw
                    (try dsimp only at hSw)
                    go_simp
                    (try with_reducible rfl)
                  (try simp only [Act.put, List.setIfInBounds_toArray, List.set_cons_zero, List.set_cons_succ])
                  refine wpAnyH_take (i := 45) (oi := { dst := some 134, op := Go.Op.fieldAddr 30 (Go.Operand.tmp 13) 0, type := 0, pos := "law.go:90", after := #[{ on := 38, ground := Go.Ground.guard }], guard := some (38, true) }) (v := ?_) rfl (by kernel_rfl) (by kernel_rfl) (by kernel_rfl) (fun _ _ _ h => h) (Or.inl ⟨by rfl, ?_⟩) hHeld2 ?_
                  rotate_left
                  · intro w hSw
                    (try dsimp only at hSw)
                    go_simp
                    (try with_reducible rfl)
                  (try simp only [Act.put, List.setIfInBounds_toArray, List.set_cons_zero, List.set_cons_succ])
                  refine wpAnyH_take (i := 46) (oi := { dst := some 135, op := Go.Op.load 3 (Go.Operand.tmp 134), type := 3, pos := "law.go:90", after := #[{ on := 45, ground := Go.Ground.data }, { on := 38, ground := Go.Ground.guard }], guard := some (38, true) }) (v := ?_) rfl (by kernel_rfl) (by kernel_rfl) (by kernel_rfl) (fun _ _ _ h => h) (Or.inl ⟨by rfl, ?_⟩) hHeld2 ?_
                  rotate_left
                  · intro w hSw
                    (try dsimp only at hSw)
                    go_simp
                    (try with_reducible rfl)
                  (try simp only [Act.put, List.setIfInBounds_toArray, List.set_cons_zero, List.set_cons_succ])
                  refine wpAnyH_take (i := 47) (oi := { dst := some 136, op := Go.Op.binOp Go.BinOp.geq 3 (Go.Operand.tmp 133) (Go.Operand.tmp 135) 3, type := 4, pos := "law.go:90", after := #[{ on := 44, ground := Go.Ground.data }, { on := 46, ground := Go.Ground.data }, { on := 38, ground := Go.Ground.guard }], guard := some (38, true) }) (v := ?_) rfl (by kernel_rfl) (by kernel_rfl) (by kernel_rfl) (fun _ _ _ h => h) (Or.inl ⟨by rfl, ?_⟩) hHeld2 ?_
                  rotate_left
                  · intro w hSw
                    (try dsimp only at hSw)
                    go_simp
                    (try with_reducible rfl)
                  (try simp only [Act.put, List.setIfInBounds_toArray, List.set_cons_zero, List.set_cons_succ])
                  refine wpAnyH_take (i := 48) (oi := { dst := some 137, op := Go.Op.pick (Go.Operand.tmp 127) (Go.Operand.tmp 136) (Go.Operand.const (Go.Value.bool false)), type := 4, pos := "law.go:90", after := #[{ on := 38, ground := Go.Ground.data }, { on := 47, ground := Go.Ground.data }, { on := 28, ground := Go.Ground.guard }], guard := some (28, false) }) (v := ?_) rfl (by kernel_rfl) (by kernel_rfl) (by kernel_rfl) (fun _ _ _ h => h) (Or.inl ⟨by rfl, ?_⟩) hHeld2 ?_
                  rotate_left
                  · intro w hSw
                    (try dsimp only at hSw)
                    go_simp
                    (try with_reducible rfl)
                  (try simp only [Act.put, List.setIfInBounds_toArray, List.set_cons_zero, List.set_cons_succ])
                  refine wpAnyH_take (i := 49) (oi := { dst := some 138, op := Go.Op.pick (Go.Operand.tmp 117) (Go.Operand.const (Go.Value.bool true)) (Go.Operand.tmp 137), type := 4, pos := "law.go:90", after := #[{ on := 28, ground := Go.Ground.data }, { on := 48, ground := Go.Ground.data }, { on := 18, ground := Go.Ground.guard }], guard := some (18, true) }) (v := ?_) rfl (by kernel_rfl) (by kernel_rfl) (by kernel_rfl) (fun _ _ _ h => h) (Or.inl ⟨by rfl, ?_⟩) hHeld2 ?_
                  rotate_left
                  · intro w hSw
                    (try dsimp only at hSw)
                    go_simp
                    (try with_reducible rfl)
                  (try simp only [Act.put, List.setIfInBounds_toArray, List.set_cons_zero, List.set_cons_succ])
                  refine wpAnyH_take (i := 50) (oi := { dst := some 139, op := Go.Op.pick (Go.Operand.tmp 107) (Go.Operand.tmp 138) (Go.Operand.const (Go.Value.bool false)), type := 4, pos := "law.go:90", after := #[{ on := 18, ground := Go.Ground.data }, { on := 49, ground := Go.Ground.data }, { on := 15, ground := Go.Ground.guard }], guard := some (15, false) }) (v := ?_) rfl (by kernel_rfl) (by kernel_rfl) (by kernel_rfl) (fun _ _ _ h => h) (Or.inl ⟨by rfl, ?_⟩) hHeld2 ?_
                  rotate_left
                  · intro w hSw
                    (try dsimp only at hSw)
                    go_simp
                    (try with_reducible rfl)
                  (try simp only [Act.put, List.setIfInBounds_toArray, List.set_cons_zero, List.set_cons_succ])
                  refine wpAnyH_take (i := 51) (oi := { dst := some 140, op := Go.Op.pick (Go.Operand.tmp 104) (Go.Operand.const (Go.Value.bool true)) (Go.Operand.tmp 139), type := 4, pos := "law.go:90", after := #[{ on := 15, ground := Go.Ground.data }, { on := 50, ground := Go.Ground.data }], guard := none }) (v := ?_) rfl (by kernel_rfl) (by kernel_rfl) (by kernel_rfl) (fun _ _ _ h => h) (Or.inl ⟨by rfl, ?_⟩) hHeld2 ?_
                  rotate_left
                  · intro w hSw
                    (try dsimp only at hSw)
                    go_simp
                    (try with_reducible rfl)
                  (try simp only [Act.put, List.setIfInBounds_toArray, List.set_cons_zero, List.set_cons_succ])
                  refine wpAnyH_done (by kernel_rfl) ?_ _
                  obtain ⟨y0, y1, y2, y3⟩ := KEEP.out _ hbQ
                  have hm18 := HMX.out _ (HBZ.out _ hbQ)
                  go_wp2_with (at_mapUpdate; refine stop_intro ?_)
                  refine stop_elim ?_
                  refine wpList_mapPut rfl (.tmp 141) (.tmp 143) (.const (.bool true)) 54 (.inl rfl) intK6 Tryz.underlying54 hm18 rfl x.unit rfl true rfl ?_
                  intro w19 hm19 hg19
                  obtain ⟨r1, r2⟩ := HEND.out _ _ hbQ hm19 hg19
                  clear hm19 hg19 hm18
                  go_wp2
                  go_roundw
                  case rel => exact ⟨j + 1 + 1, by omega, by go_num, r1, r2⟩
                  case measure => simp [intOf]; omega
            · have hki : ¬ (k : Int) < (H.length : Int) := by omega
              rw [List.take_of_length_le (by omega)] at hm
              have HG := Lib.hid (show fM H = gM H (c.sheets.take 0) by rw [List.take_zero, gM_nil])
              have hm0 := hm
              rw [HG.out] at hm0
              obtain ⟨z0, z1, z2, zl⟩ := KS.out _ bwY
              obtain ⟨wo, rfl⟩ : ∃ wo : World, wo = wr := ⟨_, rfl⟩
              clear hm HG
              go_wp2
              clear z0 z1 z2 zl
              go_loopw [148] (fun i wr => ∃ k : Nat, k ≤ c.sheets.length ∧ i = .int .i64 k ∧ MapF wr w12.heap.size intV Value.bool (gM H (c.sheets.take k)) ∧ Below w12.heap.size w12 wr) (fun i _ => c.sheets.length - (intOf i).toNat)
              case atStart => exact ⟨0, Nat.zero_le _, rfl, hm0, bw⟩
              case round =>
                clear hm0 bw bwY hml
                obtain ⟨k, hk, rfl, hm, bw⟩ := hrel
                have hml := hm.lt
                have bwY := HB2.out _ bw
                have bwW := HUP.out _ (HBX.out _ bwY)
                by_cases hlt : k < c.sheets.length
                · obtain ⟨x, hx⟩ := get_at c.sheets hlt
                  obtain ⟨b, off, vf, rfl, hbB, g0, g1, g2, g3, g4, g5, hvf⟩ := HSH.out k x hx _ bwW
                  have hbw : b < wr.heap.size := by have : b < B := hbB; have := bwW.size; omega
                  obtain ⟨Af, cf, rfl, -⟩ := id hvf
                  have hki : (k : Int) < (c.sheets.length : Int) := by omega
                  have hwk : IntKind.i64.wrap ((k : Int) + 1) = (k : Int) + 1 := IntWalk.i64_in _ (by omega)
                  have hx1 : Below wr.heap.size wr (wr.alloc (shtC x (.slice Af x.facts.length cf))) := (Below.refl _ _).alloc (Nat.le_refl _) _
                  have bw1 := bw.trans (hx1.mono bw.size)
                  have HB1 := Lib.hid (fun (W : World) (hW : Below (wr.alloc (shtC x (.slice Af x.facts.length cf))).heap.size (wr.alloc (shtC x (.slice Af x.facts.length cf))) W) => bw1.trans (hW.mono bw1.size))
                  have KX := Lib.hid (fun (W : World) (hW : Below (wr.alloc (shtC x (.slice Af x.facts.length cf))).heap.size (wr.alloc (shtC x (.slice Af x.facts.length cf))) W) => (by
                    obtain ⟨y0, y1, y2, -⟩ := KS.out _ (HB2.out _ (HB1.out W hW))
                    exact ⟨y0, y1, y2, (hW.cell (p := ⟨wr.heap.size, 0, none⟩) (by simp)).trans (by simp)⟩ : W.cell? ⟨w.heap.size, 0, none⟩ = some (.slice A1 c.langs.length ca1) ∧ W.cell? ⟨w.heap.size, 1, none⟩ = some (.slice A2 c.labels.length ca2) ∧ W.cell? ⟨w.heap.size, 2, none⟩ = some (.slice (some ⟨b, off, none⟩) c.sheets.length ca3) ∧ W.cell? ⟨wr.heap.size, 0, none⟩ = some (.int .i64 x.unit)))
                  have HMX := Lib.hid (fun (W : World) (hW : Below (wr.alloc (shtC x (.slice Af x.facts.length cf))).heap.size (wr.alloc (shtC x (.slice Af x.facts.length cf))) W) => (hm.frame (Below.heap_alloc _ _ _ hml)).below hW (by simp; omega))
                  have hbZ : Below (wr.alloc (shtC x (.slice Af x.facts.length cf))).heap.size (wr.alloc (shtC x (.slice Af x.facts.length cf))) (wr.alloc (shtC x (.slice Af x.facts.length cf))).drew := (Below.refl _ _).drew
                  have HWU := Lib.hid (fun (W : World) (hW : Below (wr.alloc (shtC x (.slice Af x.facts.length cf))).heap.size (wr.alloc (shtC x (.slice Af x.facts.length cf))) W) => HUP.out _ (HBX.out _ (HB2.out _ (HB1.out W hW))))
                  have HTK := Lib.hid (take_at hx)
                  have HMM := Lib.hid (HMA2.out k x hx)
                  have HLV := Lib.hid (show (gM H (c.sheets.take k) x.unit).getD false = mchB c s (undB c) Q x by
                    have hfu := HFU2.out k x hx
                    have hnot : x.unit ∉ (c.sheets.take k).map Sheet.unit := fun hmem => by
                      have hn := HUN2.out
                      rw [← List.take_append_drop k c.sheets, List.map_append, List.nodup_append] at hn
                      exact hn.2.2 x.unit hmem x.unit (List.mem_map.2 ⟨x, by rw [drop_at hx]; simp, rfl⟩) rfl
                    unfold gM
                    cases hmc : mchB c s (undB c) Q x
                    · rw [if_neg (fun h => by rw [hfu.1 h.1] at hmc; cases hmc)]; rfl
                    · rw [if_pos ⟨hfu.2 hmc, hnot⟩]; rfl)
                  generalize mchB c s (undB c) Q x = okb at *
                  clear hx hvf hbB
                  go_wp2
                  clear g0 g1 g2 g3 g4 g5
                  go_region_held3 (fun W => W.cell? ⟨w.heap.size, 0, none⟩ = some (.slice A1 c.langs.length ca1) ∧ W.cell? ⟨w.heap.size, 1, none⟩ = some (.slice A2 c.labels.length ca2) ∧ W.cell? ⟨w.heap.size, 2, none⟩ = some (.slice (some ⟨b, off, none⟩) c.sheets.length ca3) ∧ W.cell? ⟨wr.heap.size, 0, none⟩ = some (.int .i64 x.unit)) (with_reducible exact KX.out _ hbZ) (first
                    | (go_at_call 21; (with_reducible refine (HCC.out _ (HWU.out _ hbZ)).mono ?_); rintro e w20 ⟨e1, e2, e3, rfl, hre, -, hb20⟩; have hbZ := bnd_call hbZ (Nat.le_refl _) hb20)
                    | (go_at_call 23; (with_reducible refine (HCQ.out _ (HWU.out _ hbZ)).mono ?_); rintro e w21 ⟨v21, rfl, hoq, hb21⟩; have hbZ := bnd_call hbZ (Nat.le_refl _) hb21; have hre := (hre.below hb21).mono hb21.size; have hqp := hoq.toSl askS)
                    | (go_at_call 26; (with_reducible refine (HMM.out _ _ _ _ _ (HWU.out _ hbZ) hre hqp).mono ?_); rintro e w22 ⟨rfl, hb22⟩; have hbZ := bnd_call hbZ (Nat.le_refl _) hb22))
                  have hm22 := HMX.out _ hbZ
                  have hlk := look_b hm22 x.unit
                  rw [HLV.out] at hlk
                  have hne : (okb != okb) = false := by simp
                  obtain ⟨y0, y1, y2, y3⟩ := KX.out _ hbZ
                  have yl : wr.heap.size < w22.heap.size := by have := hbZ.size; simp at this; omega
                  clear hoq hre hqp hb20 hb21 hb22
                  go_wp2_with (at_delete; refine stop_intro ?_)
                  refine stop_elim ?_
                  refine wpList_delF rfl (.tmp 173) (.tmp 175) rfl intK6 Tryz.underlying54 hm22 rfl x.unit rfl ?_
                  intro w23 hm23 hg23
                  rw [gM_snoc, ← HTK.out] at hm23
                  have hb := HB1.out _ hbZ
                  have b23 := hb.grown hg23 hb.size (fun j hj => by injection hj; omega)
                  clear hlk hm22 y0 y1 y2 y3 hb
                  go_wp2
                  go_roundw
                  case rel => exact ⟨k + 1, by omega, by go_num, hm23, b23⟩
                  case measure => simp [intOf]; omega
                · have hki : ¬ (k : Int) < (c.sheets.length : Int) := by omega
                  have hlen0 : ∀ ty, (Builtin.len_ #[54] ty #[.map (some w12.heap.size)]).run Tryz.prog wr = .ok (.int .i64 0) wr := fun ty => by
                    have := run_maplen (ty := ty) (P := Tryz.prog) (t := 54) Tryz.underlying54 hm (L := []) List.nodup_nil (fun u => by
                      rw [List.take_of_length_le (by omega)]
                      unfold gM
                      rw [if_neg (fun h => h.2 (HSUB2.out u h.1))]
                      simp)
                    simpa using this
                  clear hm
                  go_wp2
                  go_ret
                  exact ⟨rfl, bwW⟩
        · have hfe' : (fe != 0) = true := by simp [hfe]
          have hn0 : nH = 0 := by rw [hnH.out, HFN.out hfe]; rfl
          subst hn0
          have hbb : (buildE c s != 0) = false ∨ (buildE c s != 0) = true := by cases (buildE c s != 0) <;> simp
          generalize buildE c s = zb at *
          clear hfe
          rcases hbb with hbb | hbb
          all_goals
            go_wp2
            go_ret
            exact ⟨rfl, HUP.out _ (HBX.out _ hbY)⟩
theorem matches_law (c : Cat) (s : ByteArray) (q : List Ask) (c1 c2 c3 vq : Value) (w : World) (B : Nat) (hB : B ≤ w.heap.size) (h : CatRep w B c c1 c2 c3) (hq : Asks w B q vq) (hV : VarOk w) :
    Calls Tryz.prog 4 #[.agg #[c1, c2, c3], .string s, vq] w fun e w' => e = .returned (.bool true) ∧ Below w.heap.size w w' := by
  by_cases hsz : 10 < s.size
  · exact matches_a c s c1 c2 c3 vq w B hB h hV hsz
  · exact matches_b c s q c1 c2 c3 vq w B hB h hq hV hsz
end Go.Proofs.YtngodakkdhdmjaaGreatDoor
