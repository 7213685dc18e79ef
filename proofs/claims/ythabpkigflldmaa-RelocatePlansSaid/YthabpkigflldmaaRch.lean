/- Reached of the program. -/
import Derived.Test.YthabpkigflldmaaSrt
import Derived.Stop.RegionWithIn
namespace Go.Proofs.Ythabpkigflldmaa
open Go.RowKit Go.Shelf

attribute [local go_sem] Oper.semAt_some

theorem mget_mem {es : List (ByteArray × (Value × Value) × Nat)} (hk : (es.map (·.1)).Nodup) {e : ByteArray × (Value × Value) × Nat} (he : e ∈ es) : mget es e.1 = some e.2.1 := by
  unfold mget
  cases hf : es.find? (fun x => decide (x.1 = e.1)) with
  | none => have := List.find?_eq_none.1 hf e he; simp at this
  | some e' =>
    have h1 := List.mem_of_find?_eq_some hf
    have h2 := List.find?_some hf
    simp at h2
    rw [keys_inj hk h1 he h2]
    rfl
theorem ints_ne_box {W : World} {F : Nat → Prop} {x : List Int} {v : Value} {g : Nat} {t : TypeId} {A : Option Addr} {n c : Nat} (h : SlRep 1 (flat intEnc) W F x v) (hb : Boxed W g t (.slice A n c)) : SlRep 1 (flat intEnc) W (fun b => F b ∧ b ≠ g) x v := by
  obtain ⟨A', c', e, h1, h2, h3⟩ := h
  refine ⟨A', c', e, h1, h2, fun i y hy => ?_⟩
  obtain ⟨b, off, cs, hA, hF, hr, hc⟩ := h3 i y hy
  refine ⟨b, off, cs, hA, ⟨hF, fun e => ?_⟩, hr, hc⟩
  subst e
  have h4 := hc 0 (.int .i64 y) (by rw [hr]; rfl)
  have hb' : W.heap[b]? = some (.cells #[.slice A n c] t (0, 0)) := hb
  simp [World.cell?, hb'] at h4
  rcases List.mem_singleton.1 (List.mem_of_getElem? (l := [Value.slice A n c]) (by simpa using h4)) with h5
  cases h5
def KeptC (WS : World) (g : Nat) (W : World) : Prop := ∀ (b : Nat) (o : Obj), b < WS.heap.size → b ≠ g → WS.heap[b]? = some o → o.isCells = true → W.heap[b]? = WS.heap[b]?
theorem SlRep.keptC {WS W : World} {g : Nat} {x : List Int} {v : Value} (h : SlRep 1 (flat intEnc) WS (fun b => b < WS.heap.size ∧ b ≠ g) x v) (hk : KeptC WS g W) : SlRep 1 (flat intEnc) W (fun b => b < WS.heap.size ∧ b ≠ g) x v := by
  obtain ⟨A', c', e, h1, h2, h3⟩ := h
  refine ⟨A', c', e, h1, h2, fun i y hy => ?_⟩
  obtain ⟨b, off, cs, hA, hF, hr, hc⟩ := h3 i y hy
  refine ⟨b, off, cs, hA, hF, hr, fun j u hu => ?_⟩
  have h4 := hc j u hu
  obtain ⟨o, ho, hcells⟩ := cells_of h4
  exact (World.cell?_of_block (a := ⟨b, _, none⟩) (hk b o hF.1 hF.2 ho hcells)).trans h4
abbrev VaA (ls : List Shelf) (bs : List Box) (WS : World) (g : Nat) := { p : ByteArray × (Value × Value) × List Int // (p.1 = keyB ls p.2.2 ∧ Right ls bs p.2.2 ∧ p.2.2.length ≤ 128) ∧ SlRep 1 (flat intEnc) WS (fun b => b < WS.heap.size ∧ b ≠ g) p.2.2 p.2.1.1 ∧ ∃ (A : Option Addr) (n c : Nat) (A' : Option Addr) (n' c' : Nat), p.2.1 = (.slice A n c, .slice A' n' c') }
abbrev encV {ls : List Shelf} {bs : List Box} {WS : World} {g : Nat} (x : VaA ls bs WS g) : Array Value := #[.agg #[x.1.2.1.1, x.1.2.1.2]]
def keyV {ls : List Shelf} {bs : List Box} {WS : World} {g : Nat} (x : VaA ls bs WS g) : ByteArray := x.1.1
def stV {ls : List Shelf} {bs : List Box} {WS : World} {g : Nat} (x : VaA ls bs WS g) : List Int := x.1.2.2
theorem OwnRep.base_leS {e : TypeId} {base base' : Nat} {w : World} {xs : List (List Int)} {v : Value} (h : OwnRep 1 stateR e base w xs v) (hb : base' ≤ base) : OwnRep 1 stateR e base' w xs v := by
  obtain ⟨css, hl, hr, h1⟩ := h
  refine ⟨css, hl, hr, h1.1, ?_⟩
  rcases h1.2 with h0 | ⟨g, cap, cur, rfl, hbg, h2⟩
  · exact .inl h0
  · exact .inr ⟨g, cap, cur, rfl, by omega, h2⟩
theorem OwnRep.boxSet {e t : TypeId} {base g n1 c1 : Nat} {w : World} {xs : List (List Int)} {v u : Value} {A1 : Option Addr} (h : OwnRep 1 stateR e base w xs v) (hb : Boxed w g t (.slice A1 n1 c1)) (hne : v.ownBlock ≠ some g) : OwnRep 1 stateR e base (w.setCell ⟨g, 0, none⟩ u) xs v := by
  obtain ⟨css, hl, hr, hown⟩ := h
  refine ⟨css, hl, fun i x cs hx hcs => ?_, ownsRow_frame hown fun b hb' => Below.heap_setCell _ _ _ _ (fun e => hne (by rw [hb', e]))⟩
  obtain ⟨v', rfl, h3⟩ := hr i x cs hx hcs
  exact ⟨v', rfl, ((ints_ne_box h3 hb).frame inS (fun b hb' => Below.heap_setCell _ _ _ _ hb'.2)).monoF inS (fun b hb' => ⟨by simpa using hb'.1.1, hb'.1.2⟩)⟩
section
variable {α : Type} {k : Nat} {R : CRep α} {w : World} {F : Nat → Prop} {xs : List α} {v : Value}
theorem stepIn_append_rep {Fe : Fence} {n : Nat} {P : Program} {ops : Array Oper} {o : Oper} {a : Act} {K : Act → World → Prop} {Q : Exit → Act → World → Prop} {E : Prop} (hgd : o.guard = none) (hR : Shape k R) {t e : TypeId} {bytes : Nat} (hE : Elem P t e k bytes) (base : Nat) (s x : Operand)
    (ho : o.op = .call { callee := .builtin .append, args := #[s, x], argTypes := #[t, t] }) {ys : List α}
    (hs : a.eval s = v) (hown : OwnRep k R e base w xs v) {A : Option Addr} {m c : Nat} (hx : a.eval x = .slice A m c) (hsrc : SlRep k R w F ys (.slice A m c)) (hF : ∀ b, F b → b < w.heap.size ∧ v.ownBlock ≠ some b)
    (hn : xs.length + ys.length ≤ 4294967296) (hby : bytes ≤ 4096) (hbase : base ≤ w.heap.size)
    (h : ∀ v' w', OwnRep k R e base w' (xs ++ ys) v' → w.grownBy w' v.ownBlock → (v'.ownBlock = v.ownBlock ∨ v'.ownBlock = some w.heap.size) → K (a.put o.dst v') w') :
    if Region.wanted o (yielded ops a.tmps) = true then Oper.wpIn Fe n P o a w K Q else E := by
  have hw : Region.wanted o (yielded ops a.tmps) = true := by simp [Region.wanted, hgd]
  rw [if_pos hw]
  obtain ⟨v', w', hrun, r1, r2, r3⟩ := run_append_rep (P := P) hR hE base o.type hown hsrc hF hn hby hbase
  unfold Oper.wpIn
  refine ⟨?_, ?_⟩
  · simp [Oper.about, ho, resolve, Target.leads, Sem.run_pure]
  · rw [Oper.semAt_plain Fe _ _ (by rw [ho]; intro c hc'; cases hc')]
    simp [execOp, ho, resolve, invoke, builtin, hs, hx, hrun, Result.andThen]
    exact h v' w' r1 r2 r3
end
set_option maxHeartbeats 1000000 in
theorem Reached_bad (ls : List Shelf) (bs : List Box) (s : List Int) (vl vb vs : Value) (w : World) (B : Nat) (hB : B ≤ w.heap.size) (hl : Shelves w B ls vl) (hbx : Boxes w B bs vb) (ha : Ints w B s vs) (hp : possE ls bs s ≠ 0) :
    Calls Try.prog 16 #[vl, vb, vs] w fun e w' => e = .returned (.tuple #[.slice none 0 0, .int .i64 (possE ls bs s)]) ∧ Below w.heap.size w w' := by
  have HO := Lib.hid (possible_c ls bs s vl vb vs w B hB hl hbx ha)
  obtain ⟨n1, n2⟩ := ne_bool hp
  clear hp
  go_enter Try.func16, Try.ntmps16
  go_wp2_with fail
  refine HO.out.mono ?_
  rintro e w1 ⟨rfl, hb1⟩
  go_wp2
  go_ret2
  exact ⟨rfl, hb1⟩
theorem come_perm {ls : List Shelf} {bs : List Box} (hst : startE ls bs = 0) {WS : World} {g : Nat} {out : Rows} (hgood : ∀ e ∈ out, Right ls bs e.1) (hnd : (out.map Prod.fst).Nodup) {es : List (ByteArray × (Value × Value) × Nat)} {ys : List (VaA ls bs WS g)} (h : AllCome keyV es ys)
    (hk1 : ∀ e ∈ es, ∃ o ∈ out, e.1 = keyB ls o.1) (hk2 : ∀ o ∈ out, keyB ls o.1 ∈ es.map (·.1)) : (ys.map stV).Perm (out.map Prod.fst) := by
  have hkey : ∀ y : VaA ls bs WS g, keyV y = keyB ls (stV y) := fun y => y.2.1.1
  have hri : ∀ y : VaA ls bs WS g, Right ls bs (stV y) := fun y => y.2.1.2.1
  have hmm : ys.map keyV = (ys.map stV).map (keyB ls) := by rw [List.map_map]; exact List.map_congr_left (fun y _ => hkey y)
  have hnd2 : (ys.map stV).Nodup := by
    have := h.1
    rw [hmm] at this
    exact (List.pairwise_map.1 this).imp (fun hne e => hne (by rw [e]))
  refine (List.perm_ext_iff_of_nodup hnd2 hnd).2 fun x => ?_
  constructor
  · intro hx
    obtain ⟨y, hy, rfl⟩ := List.mem_map.1 hx
    have h1 := (h.2 (keyV y)).1 (List.mem_map.2 ⟨y, hy, rfl⟩)
    obtain ⟨e, he, he2⟩ := List.mem_map.1 h1
    obtain ⟨o, ho, ho2⟩ := hk1 e he
    rw [he2, hkey y] at ho2
    exact List.mem_map.2 ⟨o, ho, (keyB_inj hst (hri y) (hgood o ho) ho2).symm⟩
  · intro hx
    obtain ⟨o, ho, rfl⟩ := List.mem_map.1 hx
    have h1 := (h.2 _).2 (hk2 o ho)
    obtain ⟨y, hy, hy2⟩ := List.mem_map.1 h1
    rw [hkey y] at hy2
    exact List.mem_map.2 ⟨y, hy, keyB_inj hst (hri y) (hgood o ho) hy2⟩
/-- what Reached comes to -/
def ReachedPost (ls : List Shelf) (bs : List Box) (s : List Int) (w : World) (e : Ending) (w' : World) : Prop := ∃ v' ys, e = .returned (.tuple #[v', .int .i64 0]) ∧ ys.Perm ((reachF ls bs s).map Prod.fst) ∧ ascW ys ∧ OwnRep 1 stateR 26 w.heap.size w' ys v' ∧ Below w.heap.size w w'
set_option maxRecDepth 100000 in
set_option maxHeartbeats 8000000 in
theorem Reached_ok (ls : List Shelf) (bs : List Box) (s : List Int) (vl vb vs : Value) (w : World) (B : Nat) (hB : B ≤ w.heap.size) (hl : Shelves w B ls vl) (hbx : Boxes w B bs vb) (ha : Ints w B s vs) (hp : possE ls bs s = 0) :
    Calls Try.prog 16 #[vl, vb, vs] w (ReachedPost ls bs s w) := by
  obtain ⟨hst, hr, hh⟩ := poss_zero hp
  obtain ⟨hF1, hF2, hF3⟩ := reach_found hst ⟨hr, hh⟩
  have HF1 := Lib.hid hF1.nodup
  have HF2 := Lib.hid hF2
  have HF3 := Lib.hid hF3
  have H0 := Lib.hid hst
  have HO := Lib.hid (possible_c ls bs s vl vb vs w B hB hl hbx ha)
  rw [hp] at HO
  have HSR := Lib.hid (fun (W : World) (hW : Below w.heap.size w W) => search_c ls bs s vl vb vs W B (Nat.le_trans hB hW.size) (hl.below shS (hW.mono hB)) (hbx.below boS (hW.mono hB)) (ha.below inS (hW.mono hB)) hst ⟨hr, hh⟩)
  clear hp hst hr hh hF1 hF2 hF3
  obtain ⟨A, c, rfl, hc1, hc2, _⟩ := id hl
  obtain ⟨A', c', rfl, hd1, hd2, _⟩ := id hbx
  refine (callsIn_wide (n := 5)).1 ?_
  refine callsIn_of_wp_marks Try.func16 rfl trivial ?_ rfl
  simp only [Try.ntmps16, List.size_toArray, List.length_cons, List.length_nil, Nat.reduceAdd, Nat.reduceSub, Array.replicate_succ, Array.replicate_zero, List.push_toArray, List.append_toArray, List.nil_append, List.cons_append]
  gi_wp2_with fail
  refine ⟨trivial, ?_⟩
  refine (callsIn_wide.2 HO.out).mono ?_
  rintro e w1 ⟨rfl, hb1⟩
  have bq : Below w1.heap.size w1 (w1.alloc (.cells #[.slice none 0 0] 35)) := (Below.refl _ _).alloc (Nat.le_refl _) _
  have B2 := hb1.trans (bq.mono hb1.size)
  gi_wp2_with fail
  refine ⟨trivial, ?_⟩
  refine (callsIn_wide.2 (HSR.out _ B2)).mono ?_
  rintro e WS ⟨bm, f, rfl, hbm, hM, hbS⟩
  simp only [World.size_alloc] at hbm hbS
  have hsS := hbS.size
  simp only [World.size_alloc] at hsS
  have BS := B2.trans (hbS.mono (by have := hb1.size; omega))
  have bO : Boxed WS w1.heap.size 35 (.slice none 0 0) := (hbS.block w1.heap.size (by omega)).trans (Boxed.new w1 _ _)
  gi_wp2_with fail
  refine ⟨trivial, ?_⟩
  refine (values_in Fence.wide 4 trivial rfl _ _).mono ?_
  rintro e w' ⟨rfl, rfl⟩
  have hsw := hb1.size
  obtain ⟨es, clock, hMA, hget⟩ := hM.mp
  have HK1 := Lib.hid (fun (e : ByteArray × (Value × Value) × Nat) (he : e ∈ es) => (by
    obtain ⟨o, ho, h1⟩ := hM.only e.1 e.2.1 (by rw [← hget]; exact mget_mem hMA.keys he)
    exact ⟨o, ho, h1⟩ : ∃ o ∈ reachF ls bs s, e.1 = keyB ls o.1))
  have HK2 := Lib.hid (fun (o : List Int × List Carry) (ho : o ∈ reachF ls bs s) => (by
    obtain ⟨p, h1, _⟩ := hM.has o ho
    rw [← hget] at h1
    unfold mget at h1
    cases hf : es.find? (fun x => decide (x.1 = keyB ls o.1)) with
    | none => rw [hf] at h1; cases h1
    | some e' =>
      have h2 := List.mem_of_find?_eq_some hf
      have h3 := List.find?_some hf
      simp at h3
      exact List.mem_map.2 ⟨e', h2, h3⟩ : keyB ls o.1 ∈ es.map (·.1)))
  have hel : es.length ≤ 4096 := by
    have := nodup_sub_len (es.map (·.1)) ((reachF ls bs s).map (fun o => keyB ls o.1)) hMA.keys (fun x hx => by
      obtain ⟨e, he, rfl⟩ := List.mem_map.1 hx
      obtain ⟨o, ho, h1⟩ := HK1.out e he
      exact List.mem_map.2 ⟨o, ho, h1.symm⟩)
    simp at this
    have := HF3.out
    omega
  have HA := Lib.hid (fun (e : ByteArray × (Value × Value) × Nat) (he : e ∈ es) => (by
    obtain ⟨o, ho, h1⟩ := HK1.out e he
    obtain ⟨⟨pa, pp⟩, h2, h3, h4⟩ := hM.has o ho
    have h5 : e.2.1 = (pa, pp) := by
      have := mget_mem hMA.keys he
      rw [hget, h1, h2] at this
      injection this with this
      exact this.symm
    obtain ⟨A1, c1, e1, _⟩ := id h3
    obtain ⟨A2, c2, e2, _⟩ := id h4
    simp only at e1 e2 h3 h4
    subst e1 e2
    have hgood := (HF2.out o ho).1
    refine ⟨⟨(e.1, (.slice A1 o.1.length c1, .slice A2 o.2.length c2), o.1), ⟨h1, hgood, ?_⟩, ?_, A1, _, c1, A2, _, c2, rfl⟩, A1, A2, _, c1, _, c2, rfl, h5, rfl⟩
    · show o.1.length ≤ 128
      rw [hgood.1]
      exact (boxes_ok (start_ok H0.out).2.1).1
    · exact (ints_ne_box h3 bO).monoF inS (fun b hb => ⟨hb.1.1, hb.2⟩) : ∃ (x : VaA ls bs WS w1.heap.size) (A1 A2 : Option Addr) (n1 c1 n2 c2 : Nat), keyV x = e.1 ∧ e.2.1 = (.slice A1 n1 c1, .slice A2 n2 c2) ∧ encV x = #[.agg #[.slice A1 n1 c1, .slice A2 n2 c2]]))
  have bV : Below WS.heap.size WS (WS.alloc (.cells #[.map (some bm)] 70)) := (Below.refl _ _).alloc (Nat.le_refl _) _
  have hMA2 : MapAt (WS.alloc (.cells #[.map (some bm)] 70)) bm Value.string pairEnc es clock := hMA.frame (bV.block bm hMA.lt)
  have hcell : (WS.alloc (.cells #[.map (some bm)] 70)).cell? ⟨WS.heap.size, 0, none⟩ = some (.map (some bm)) := by simp
  have hbml := hMA2.lt
  clear hM hget hMA hbm
  gi_wp2_with fail
  refine wpIn_rangeFunc_ownH rfl (by decide) (gf := 70) (lb := #[.pointer (some ⟨WS.heap.size, 0, none⟩)]) rfl trivial (enters_of Try.func70 (by kernel_rfl) rfl)
    (encs := encV) (Kp := KeepsWalks) (S := AllCome keyV es) (Sp := fun _ => True) (N := es.length) (w0 := WS.alloc (.cells #[.map (some bm)] 70))
    (fun l J Jx W hW hJ _ hY h0 => values1_in encV keyV Fence.wide (5 - 1) trivial rfl (by decide) l WS.heap.size bm es clock HA.out J Jx hY W hJ ((hW.cell (p := ⟨WS.heap.size, 0, none⟩) (by simp)).trans hcell) (hMA2.frame (hW.block bm hbml)) h0)
    walksK_t walksK_b (Below.refl _ _) (fun _ => rfl)
    (fun pre W => RowBox 1 stateR 26 35 (WS.heap.size + 1) w1.heap.size (fun p : List (VaA ls bs WS w1.heap.size) => p.map stV) pre W ∧ Below w.heap.size w W ∧ KeptC WS w1.heap.size W ∧ WS.heap.size + 1 ≤ W.heap.size)
    (fun _ _ _ => False)
    (OwnFrom.and (Own.from (rowBox_own saS stateC _ _ _ _ _) _) (OwnFrom.and (ownFrom_below (Nat.le_refl _) (by simp; omega)) (OwnFrom.and (fun s W W' row hs hg hr b o hb hne ho hc => ((sameC_grown hg (fun r e => (hr r e).2)) b o ((hs b o hb hne ho hc).trans ho) hc).trans (hs b o hb hne ho hc)) (fun s W W' row hs hg _ => Nat.le_trans hs hg.size))))
    (fun _ _ _ _ _ hs _ _ => hs)
    ⟨⟨_, bO.alloc _, OwnRep.nil_, by simp [Value.ownBlock]⟩, BS.trans (bV.mono (by omega)), fun b o hb _ _ _ => bV.block b hb, by simp⟩
    (fun x a' W => ∃ Bx, WS.heap.size < Bx ∧ W.heap[Bx]? = some (.cells #[x.1.2.1.1, x.1.2.1.2] 68 (0, 0)) ∧ a' = { tmps := #[.slice A ls.length c, .slice A' bs.length c', vs, undef, undef, undef, .slice none 0 0, .int .i64 0, .int .i64 0, .pointer (some ⟨w1.heap.size, 0, none⟩), .pointer (some ⟨Bx, 0, none⟩), .slice A ls.length c, .slice A' bs.length c', vs, .int .i64 0, .int .i64 0, .bool false, undef, .slice A ls.length c, .slice A' bs.length c', .agg #[.slice A ls.length c, .slice A' bs.length c'], vs, .map (some bm), .func (.func 70) #[] #[.pointer (some ⟨WS.heap.size, 0, none⟩)], .agg #[x.1.2.1.1, x.1.2.1.2], undef, undef, undef, undef, undef, undef, undef, undef, undef], defers := [] })
    ?hax ?assign ?body ?done ?stop
  case hax =>
    rintro x a' _ W W' row ⟨Bx, h1, h2, h3⟩ hg hr
    exact ⟨Bx, h1, (sameC_grown hg (fun r e => (hr r e).2) Bx _ h2 rfl).trans h2, h3⟩
  case assign =>
    rintro l pre ⟨⟨κ, ⟨pa, pp⟩, st⟩, h1, h2, A1, n1, c1, A2, n2, c2, e⟩ W K ⟨⟨vo, hbo, hown, hne⟩, hB1, hkc, hsz⟩ hK
    simp only at e
    cases e
    have hba : Below W.heap.size W (W.alloc (.cells #[.slice A1 n1 c1, .slice A2 n2 c2] 68)) := (Below.refl _ _).alloc (Nat.le_refl _) _
    gi_wp2
    refine hK _ _ ((KeepsOthers.alloc _ _).from _) (KeepsOthers.alloc _ _).walks ⟨⟨vo, hbo.alloc _, hown.below saS hba, hne⟩, hB1.trans (hba.mono (by omega)), fun b o hb hn ho hc => (hba.block b (by omega)).trans (hkc b o hb hn ho hc), by simp; omega⟩ ⟨W.heap.size, by omega, ?_, rfl⟩
    show (W.heap.push _)[W.heap.size]? = _
    simp
  case body =>
    rintro l pre x a' W hl hr ⟨⟨vo, hbo, hown, hne⟩, hB1, hkc, hsz⟩ ⟨Bx, hBx, hcx, rfl⟩ hlt
    obtain ⟨h4, A1, n1, c1, A2, n2, c2, e⟩ := x.2.2
    have h3 := x.2.1.2.2
    have HST := Lib.hid (show x.1.2.2 = stV x from rfl)
    rw [e] at h4 hcx ⊢
    rw [HST.out] at h4 h3
    simp only at h4 hcx ⊢
    generalize hst : stV x = st at *
    have HSV := Lib.hid hst
    clear hst e HST
    change OwnRep 1 stateR 26 (WS.heap.size + 1) W (pre.map stV) vo at hown
    have g0 : W.cell? ⟨Bx, 0, none⟩ = some (.slice A1 n1 c1) := by simp [World.cell?, hcx]
    have hBl : Bx < W.heap.size := (Array.getElem?_eq_some_iff.1 hcx).1
    have hc0 := hbo.cell
    have hf0 := hbo.frozen
    have hlto := hown.own_lt
    have HLP := Lib.hid (show (pre.map stV).length = pre.length by simp)
    have hrd := h4.keptC hkc
    have HCL := Lib.hid (fun (W' : World) (hW : Below W.heap.size W W') => cloneI_c st (.slice A1 n1 c1) W' W'.heap.size (Nat.le_refl _) ((hrd.frame inS (fun b hb => hW.block b (by omega))).monoF inS (fun b hb => by have := hW.size; have := hb.1; omega)) (by omega))
    have hwl : w1.heap.size < W.heap.size := by omega
    have hcap : pre.length < es.length := hlt
    obtain ⟨Ao, co, rfl, -⟩ := hown.toSl saS
    generalize hacc : pre.map stV = acc at *
    have HACC := Lib.hid hacc
    clear hacc hcx
    have hbX : Below W.heap.size W W.drew := (Below.refl _ _).drew
    have kN : acc.length + [st].length ≤ 4294967296 := by have := HLP.out; simp; omega
    have HAP := Lib.hid (fun (wC : World) (vC : Value) (hownC : OwnRep 1 (flat intEnc) 3 W.heap.size wC st vC) (hbC : Below W.heap.size W wC) => (by
      have hsC := hbC.size
      obtain ⟨Ac, cc, rfl, -⟩ := id (hownC.toSl inS)
      exact ⟨Ac, cc, rfl, SlRep.one_new saS (t := 26) (x := st) (F := fun b => W.heap.size ≤ b ∧ b < wC.heap.size) (w := wC) (cs := [.slice Ac st.length cc]) rfl ⟨_, rfl, (hownC.toFlat inS).monoF inS (fun b hb => hownC.own_lt b hb)⟩ (fun b hb => hb.2), (hown.below saS hbC).alloc saS _, hsC, fun b hb => by
        rcases hb with hb | hb
        · exact ⟨by simp; omega, fun e => by have := (hlto b e).2; omega⟩
        · subst hb; exact ⟨by simp, fun e => by have := (hlto _ e).2; omega⟩⟩ : ∃ (Ac : Option Addr) (cc : Nat), vC = .slice Ac st.length cc ∧ SlRep 1 stateR (wC.alloc (.cells #[.slice Ac st.length cc] 26)) (fun b => (W.heap.size ≤ b ∧ b < wC.heap.size) ∨ b = wC.heap.size) [st] (.slice (some ⟨wC.heap.size, 0, none⟩) 1 1) ∧ OwnRep 1 stateR 26 (WS.heap.size + 1) (wC.alloc (.cells #[.slice Ac st.length cc] 26)) acc (.slice Ao acc.length co) ∧ W.heap.size ≤ wC.heap.size ∧ ∀ b, ((W.heap.size ≤ b ∧ b < wC.heap.size) ∨ b = wC.heap.size) → b < (wC.alloc (.cells #[.slice Ac st.length cc] 26)).heap.size ∧ (Value.slice Ao acc.length co).ownBlock ≠ some b))
    have HFIN := Lib.hid (fun (wC : World) (Ac : Option Addr) (cc : Nat) (hbC : Below W.heap.size W wC) (v6 : Value) (w6 : World) (hown6 : OwnRep 1 stateR 26 (WS.heap.size + 1) w6 (acc ++ [st]) v6) (hg6 : (wC.alloc (.cells #[.slice Ac st.length cc] 26)).grownBy w6 (Value.slice Ao acc.length co).ownBlock) (hat6 : v6.ownBlock = (Value.slice Ao acc.length co).ownBlock ∨ v6.ownBlock = some (wC.alloc (.cells #[.slice Ac st.length cc] 26)).heap.size) => (by
      have hsC := hbC.size
      have hs6 := hg6.size
      simp only [World.size_alloc] at hs6
      obtain ⟨A6, c6, e6, -⟩ := id (hown6.toSl saS)
      subst e6
      have hbo6 : Boxed w6 w1.heap.size 35 (.slice Ao acc.length co) := box_keep ((box_keep hbo (hbC.block _ hwl)).alloc _) (hg6.block _ (by simp; omega) (fun e => hne e.symm))
      have hne6 : (Value.slice A6 (acc ++ [st]).length c6).ownBlock ≠ some w1.heap.size := by
        rcases hat6 with h | h
        · rw [h]; exact hne
        · rw [h]; simp; omega
      have hk6 : KeepsOthers W w6 := by
        refine ((⟨hsC, fun k o hk ho => (hbC.block k (Array.getElem?_eq_some_iff.1 hk).1).trans hk⟩ : KeepsOthers W wC).trans (KeepsOthers.alloc wC _)).trans (KeepsOthers.of_grownBy hg6 (fun j o hj ho => ?_))
        obtain ⟨_, _, _, hrow⟩ := (hown.below saS hbC).alloc saS (.cells #[.slice Ac st.length cc] 26)
        rcases hrow.2 with ⟨h1, _⟩ | ⟨g, cap, cur, h1, _, hg, _⟩
        · rw [h1] at hj; cases hj
        · rw [h1] at hj
          cases hj
          have ho' := ho.symm.trans hg
          injection ho' with ho'
          subst ho'
          rfl
      refine ⟨A6, c6, rfl, hbo6, ⟨by omega, by omega⟩, ⟨_, box_set hbo6, ?_, hne6⟩, hk6, ?_, hne6, ?_⟩
      · show OwnRep 1 stateR _ _ _ ((pre ++ [x]).map stV) _
        rw [List.map_append, HACC.out, List.map_cons, List.map_nil, HSV.out]
        exact hown6.boxSet hbo6 hne6
      · exact (((hB1.trans (hbC.mono (by omega))).alloc (by omega) _).grown hg6 (by simp; omega) (fun k hk => by have := (hlto k hk).1; omega)).setCell (p := ⟨w1.heap.size, 0, none⟩) (by show w.heap.size ≤ w1.heap.size; omega) _
      · intro b o hb hn ho hc
        refine (Below.heap_setCell _ _ _ _ (by simpa using hn)).trans (((hg6.block b (by simp; omega) (fun e => by have := (hlto b e.symm).1; omega)).trans (Below.heap_alloc _ _ _ (by omega))).trans ((hbC.block b (by omega)).trans (hkc b o hb hn ho hc))) : ∃ (A6 : Option Addr) (c6 : Nat), v6 = .slice A6 (acc ++ [st]).length c6 ∧ Boxed w6 w1.heap.size 35 (.slice Ao acc.length co) ∧ (w1.heap.size < w6.heap.size ∧ WS.heap.size + 1 ≤ w6.heap.size) ∧ RowBox 1 stateR 26 35 (WS.heap.size + 1) w1.heap.size (fun p : List (VaA ls bs WS w1.heap.size) => p.map stV) (pre ++ [x]) (w6.setCell ⟨w1.heap.size, 0, none⟩ (.slice A6 (acc ++ [st]).length c6)) ∧ KeepsOthers W w6 ∧ Below w.heap.size w (w6.setCell ⟨w1.heap.size, 0, none⟩ (.slice A6 (acc ++ [st]).length c6)) ∧ (Value.slice A6 (acc ++ [st]).length c6).ownBlock ≠ some w1.heap.size ∧ KeptC WS w1.heap.size (w6.setCell ⟨w1.heap.size, 0, none⟩ (.slice A6 (acc ++ [st]).length c6))))
    obtain ⟨acc2, hacc2⟩ : ∃ acc2, acc ++ [st] = acc2 := ⟨_, rfl⟩
    rw [hacc2] at HFIN
    have HA2 := Lib.hid hacc2
    clear hacc2
    gi_wp2
    refine wpIn_region_any (by kernel_rfl) ?_
    change wpAnyIn _ _ _ _ _ _ _ _ _ (World.drew _)
    refine wpAnyIn_ready (rs := [0, 1]) (by kernel_rfl) (by simp) ?_
    refine AllReadyIn.cons rfl (fun K hK => ?_) ?_
    · go_simp
      refine hK _ _ ?_
      clear hK K
      refine wpAnyIn_ready (rs := [1]) (by kernel_rfl) (by simp) ?_
      refine AllReadyIn.cons rfl (fun K hK => ?_) ?_
      · go_simp
        refine hK _ _ ?_
        clear hK K
        refine wpAnyIn_ready (rs := [2]) (by kernel_rfl) (by simp) ?_
        refine AllReadyIn.cons rfl (fun K hK => ?_) ?_
        · go_simp
          refine hK _ _ ?_
          clear hK K
          refine wpAnyIn_ready (rs := [3]) (by kernel_rfl) (by simp) ?_
          refine AllReadyIn.cons rfl (fun K hK => ?_) ?_
          · go_simp
            gi_wp2_with (refine ⟨trivial, ?_⟩; refine (CallsIn.inRound l (callsIn_wide.2 (HCL.out _ hbX))).mono ?_; rintro e wC ⟨vC, rfl, hownC, hbC⟩; have hbC' := hbX.trans (hbC.mono hbX.size); obtain ⟨Ac, cc, rfl, hone, hd, hsC, hF⟩ := HAP.out wC vC hownC hbC'; have hcC := (hbC'.cell (p := ⟨w1.heap.size, 0, none⟩) hwl).trans hc0; have hwlC : w1.heap.size < wC.heap.size := Nat.lt_of_lt_of_le hwl hbC'.size)
            try (refine hK _ _ ?_; clear hK K)
            refine wpAnyIn_ready (rs := [4]) (by kernel_rfl) (by simp) ?_
            refine AllReadyIn.cons rfl (fun K hK => ?_) ?_
            · go_simp
              refine hK _ _ ?_
              clear hK K
              refine wpAnyIn_ready (rs := [5]) (by kernel_rfl) (by simp) ?_
              refine AllReadyIn.cons rfl (fun K hK => ?_) ?_
              · refine stepIn_append_rep rfl saS stateE_ (WS.heap.size + 1) (.tmp 25) (.tmp 29) rfl rfl hd rfl (ys := [st]) hone hF kN (by decide) (by simp; omega) ?_
                intro v6 w6 hown6 hg6 hat6
                rw [HA2.out] at hown6
                obtain ⟨A6, c6, rfl, hbo6, ⟨hl6, hl7⟩, hown7, hk6, hB6, hne6, hkc6⟩ := HFIN.out wC Ac cc hbC' v6 w6 hown6 hg6 hat6
                have hc6 := hbo6.cell
                have hf6 := hbo6.frozen
                refine hK _ _ ?_
                clear hK K
                simp only [Act.put, List.setIfInBounds_toArray]
                refine wpAnyIn_ready (rs := [6]) (by kernel_rfl) (by simp) ?_
                refine AllReadyIn.cons rfl (fun K hK => ?_) ?_
                · go_simp
                  refine hK _ _ ?_
                  clear hK K
                  refine wpAnyIn_done (by kernel_rfl) ?_ _
                  exact ⟨(hk6.trans (KeepsOthers.setCell _ _ _)).from _, (hk6.trans (KeepsOthers.setCell _ _ _)).walks, hown7, hB6, hkc6, by simp; omega⟩
                exact AllReadyIn.nil
              exact AllReadyIn.nil
            exact AllReadyIn.nil
          exact AllReadyIn.nil
        exact AllReadyIn.nil
      exact AllReadyIn.nil
    refine AllReadyIn.cons rfl (fun K hK => ?_) ?_
    · go_simp
      refine hK _ _ ?_
      clear hK K
      refine wpAnyIn_ready (rs := [0, 2]) (by kernel_rfl) (by simp) ?_
      refine AllReadyIn.cons rfl (fun K hK => ?_) ?_
      · go_simp
        refine hK _ _ ?_
        clear hK K
        refine wpAnyIn_ready (rs := [2]) (by kernel_rfl) (by simp) ?_
        refine AllReadyIn.cons rfl (fun K hK => ?_) ?_
        · go_simp
          refine hK _ _ ?_
          clear hK K
          refine wpAnyIn_ready (rs := [3]) (by kernel_rfl) (by simp) ?_
          refine AllReadyIn.cons rfl (fun K hK => ?_) ?_
          · go_simp
            gi_wp2_with (refine ⟨trivial, ?_⟩; refine (CallsIn.inRound l (callsIn_wide.2 (HCL.out _ hbX))).mono ?_; rintro e wC ⟨vC, rfl, hownC, hbC⟩; have hbC' := hbX.trans (hbC.mono hbX.size); obtain ⟨Ac, cc, rfl, hone, hd, hsC, hF⟩ := HAP.out wC vC hownC hbC'; have hcC := (hbC'.cell (p := ⟨w1.heap.size, 0, none⟩) hwl).trans hc0; have hwlC : w1.heap.size < wC.heap.size := Nat.lt_of_lt_of_le hwl hbC'.size)
            try (refine hK _ _ ?_; clear hK K)
            refine wpAnyIn_ready (rs := [4]) (by kernel_rfl) (by simp) ?_
            refine AllReadyIn.cons rfl (fun K hK => ?_) ?_
            · go_simp
              refine hK _ _ ?_
              clear hK K
              refine wpAnyIn_ready (rs := [5]) (by kernel_rfl) (by simp) ?_
              refine AllReadyIn.cons rfl (fun K hK => ?_) ?_
              · refine stepIn_append_rep rfl saS stateE_ (WS.heap.size + 1) (.tmp 25) (.tmp 29) rfl rfl hd rfl (ys := [st]) hone hF kN (by decide) (by simp; omega) ?_
                intro v6 w6 hown6 hg6 hat6
                rw [HA2.out] at hown6
                obtain ⟨A6, c6, rfl, hbo6, ⟨hl6, hl7⟩, hown7, hk6, hB6, hne6, hkc6⟩ := HFIN.out wC Ac cc hbC' v6 w6 hown6 hg6 hat6
                have hc6 := hbo6.cell
                have hf6 := hbo6.frozen
                refine hK _ _ ?_
                clear hK K
                simp only [Act.put, List.setIfInBounds_toArray]
                refine wpAnyIn_ready (rs := [6]) (by kernel_rfl) (by simp) ?_
                refine AllReadyIn.cons rfl (fun K hK => ?_) ?_
                · go_simp
                  refine hK _ _ ?_
                  clear hK K
                  refine wpAnyIn_done (by kernel_rfl) ?_ _
                  exact ⟨(hk6.trans (KeepsOthers.setCell _ _ _)).from _, (hk6.trans (KeepsOthers.setCell _ _ _)).walks, hown7, hB6, hkc6, by simp; omega⟩
                exact AllReadyIn.nil
              exact AllReadyIn.nil
            exact AllReadyIn.nil
          exact AllReadyIn.nil
        exact AllReadyIn.nil
      refine AllReadyIn.cons rfl (fun K hK => ?_) ?_
      · go_simp
        refine hK _ _ ?_
        clear hK K
        refine wpAnyIn_ready (rs := [0, 3]) (by kernel_rfl) (by simp) ?_
        refine AllReadyIn.cons rfl (fun K hK => ?_) ?_
        · go_simp
          refine hK _ _ ?_
          clear hK K
          refine wpAnyIn_ready (rs := [3]) (by kernel_rfl) (by simp) ?_
          refine AllReadyIn.cons rfl (fun K hK => ?_) ?_
          · go_simp
            gi_wp2_with (refine ⟨trivial, ?_⟩; refine (CallsIn.inRound l (callsIn_wide.2 (HCL.out _ hbX))).mono ?_; rintro e wC ⟨vC, rfl, hownC, hbC⟩; have hbC' := hbX.trans (hbC.mono hbX.size); obtain ⟨Ac, cc, rfl, hone, hd, hsC, hF⟩ := HAP.out wC vC hownC hbC'; have hcC := (hbC'.cell (p := ⟨w1.heap.size, 0, none⟩) hwl).trans hc0; have hwlC : w1.heap.size < wC.heap.size := Nat.lt_of_lt_of_le hwl hbC'.size)
            try (refine hK _ _ ?_; clear hK K)
            refine wpAnyIn_ready (rs := [4]) (by kernel_rfl) (by simp) ?_
            refine AllReadyIn.cons rfl (fun K hK => ?_) ?_
            · go_simp
              refine hK _ _ ?_
              clear hK K
              refine wpAnyIn_ready (rs := [5]) (by kernel_rfl) (by simp) ?_
              refine AllReadyIn.cons rfl (fun K hK => ?_) ?_
              · refine stepIn_append_rep rfl saS stateE_ (WS.heap.size + 1) (.tmp 25) (.tmp 29) rfl rfl hd rfl (ys := [st]) hone hF kN (by decide) (by simp; omega) ?_
                intro v6 w6 hown6 hg6 hat6
                rw [HA2.out] at hown6
                obtain ⟨A6, c6, rfl, hbo6, ⟨hl6, hl7⟩, hown7, hk6, hB6, hne6, hkc6⟩ := HFIN.out wC Ac cc hbC' v6 w6 hown6 hg6 hat6
                have hc6 := hbo6.cell
                have hf6 := hbo6.frozen
                refine hK _ _ ?_
                clear hK K
                simp only [Act.put, List.setIfInBounds_toArray]
                refine wpAnyIn_ready (rs := [6]) (by kernel_rfl) (by simp) ?_
                refine AllReadyIn.cons rfl (fun K hK => ?_) ?_
                · go_simp
                  refine hK _ _ ?_
                  clear hK K
                  refine wpAnyIn_done (by kernel_rfl) ?_ _
                  exact ⟨(hk6.trans (KeepsOthers.setCell _ _ _)).from _, (hk6.trans (KeepsOthers.setCell _ _ _)).walks, hown7, hB6, hkc6, by simp; omega⟩
                exact AllReadyIn.nil
              exact AllReadyIn.nil
            exact AllReadyIn.nil
          exact AllReadyIn.nil
        refine AllReadyIn.cons rfl (fun K hK => ?_) ?_
        · go_simp
          gi_wp2_with (refine ⟨trivial, ?_⟩; refine (CallsIn.inRound l (callsIn_wide.2 (HCL.out _ hbX))).mono ?_; rintro e wC ⟨vC, rfl, hownC, hbC⟩; have hbC' := hbX.trans (hbC.mono hbX.size); obtain ⟨Ac, cc, rfl, hone, hd, hsC, hF⟩ := HAP.out wC vC hownC hbC'; have hcC := (hbC'.cell (p := ⟨w1.heap.size, 0, none⟩) hwl).trans hc0; have hwlC : w1.heap.size < wC.heap.size := Nat.lt_of_lt_of_le hwl hbC'.size)
          try (refine hK _ _ ?_; clear hK K)
          refine wpAnyIn_ready (rs := [0, 4]) (by kernel_rfl) (by simp) ?_
          refine AllReadyIn.cons rfl (fun K hK => ?_) ?_
          · go_simp
            refine hK _ _ ?_
            clear hK K
            refine wpAnyIn_ready (rs := [4]) (by kernel_rfl) (by simp) ?_
            refine AllReadyIn.cons rfl (fun K hK => ?_) ?_
            · go_simp
              refine hK _ _ ?_
              clear hK K
              refine wpAnyIn_ready (rs := [5]) (by kernel_rfl) (by simp) ?_
              refine AllReadyIn.cons rfl (fun K hK => ?_) ?_
              · refine stepIn_append_rep rfl saS stateE_ (WS.heap.size + 1) (.tmp 25) (.tmp 29) rfl rfl hd rfl (ys := [st]) hone hF kN (by decide) (by simp; omega) ?_
                intro v6 w6 hown6 hg6 hat6
                rw [HA2.out] at hown6
                obtain ⟨A6, c6, rfl, hbo6, ⟨hl6, hl7⟩, hown7, hk6, hB6, hne6, hkc6⟩ := HFIN.out wC Ac cc hbC' v6 w6 hown6 hg6 hat6
                have hc6 := hbo6.cell
                have hf6 := hbo6.frozen
                refine hK _ _ ?_
                clear hK K
                simp only [Act.put, List.setIfInBounds_toArray]
                refine wpAnyIn_ready (rs := [6]) (by kernel_rfl) (by simp) ?_
                refine AllReadyIn.cons rfl (fun K hK => ?_) ?_
                · go_simp
                  refine hK _ _ ?_
                  clear hK K
                  refine wpAnyIn_done (by kernel_rfl) ?_ _
                  exact ⟨(hk6.trans (KeepsOthers.setCell _ _ _)).from _, (hk6.trans (KeepsOthers.setCell _ _ _)).walks, hown7, hB6, hkc6, by simp; omega⟩
                exact AllReadyIn.nil
              exact AllReadyIn.nil
            exact AllReadyIn.nil
          refine AllReadyIn.cons rfl (fun K hK => ?_) ?_
          · go_simp
            refine hK _ _ ?_
            clear hK K
            refine wpAnyIn_ready (rs := [0]) (by kernel_rfl) (by simp) ?_
            refine AllReadyIn.cons rfl (fun K hK => ?_) ?_
            · go_simp
              refine hK _ _ ?_
              clear hK K
              refine wpAnyIn_ready (rs := [5]) (by kernel_rfl) (by simp) ?_
              refine AllReadyIn.cons rfl (fun K hK => ?_) ?_
              · refine stepIn_append_rep rfl saS stateE_ (WS.heap.size + 1) (.tmp 25) (.tmp 29) rfl rfl hd rfl (ys := [st]) hone hF kN (by decide) (by simp; omega) ?_
                intro v6 w6 hown6 hg6 hat6
                rw [HA2.out] at hown6
                obtain ⟨A6, c6, rfl, hbo6, ⟨hl6, hl7⟩, hown7, hk6, hB6, hne6, hkc6⟩ := HFIN.out wC Ac cc hbC' v6 w6 hown6 hg6 hat6
                have hc6 := hbo6.cell
                have hf6 := hbo6.frozen
                refine hK _ _ ?_
                clear hK K
                simp only [Act.put, List.setIfInBounds_toArray]
                refine wpAnyIn_ready (rs := [6]) (by kernel_rfl) (by simp) ?_
                refine AllReadyIn.cons rfl (fun K hK => ?_) ?_
                · go_simp
                  refine hK _ _ ?_
                  clear hK K
                  refine wpAnyIn_done (by kernel_rfl) ?_ _
                  exact ⟨(hk6.trans (KeepsOthers.setCell _ _ _)).from _, (hk6.trans (KeepsOthers.setCell _ _ _)).walks, hown7, hB6, hkc6, by simp; omega⟩
                exact AllReadyIn.nil
              exact AllReadyIn.nil
            exact AllReadyIn.nil
          exact AllReadyIn.nil
        exact AllReadyIn.nil
      exact AllReadyIn.nil
    exact AllReadyIn.nil
  case done =>
    rintro D ys W hD hS ⟨⟨vo, hbo, hown, hne⟩, hB1, hkc, hsz⟩ hK
    change OwnRep 1 stateR 26 (WS.heap.size + 1) W (ys.map stV) vo at hown
    have hperm := come_perm H0.out (fun e he => (HF2.out e he).1) HF1.out hS HK1.out HK2.out
    have HP := Lib.hid hperm
    have hyl : (ys.map stV).length ≤ 1000000 := by rw [hperm.length_eq, List.length_map]; have := HF3.out; omega
    clear hperm hS
    have hc := hbo.cell
    have hgw : w1.heap.size < W.heap.size := by omega
    have HSO := Lib.hid (sortSt_c _ vo _ W hown hyl)
    have hlto := hown.own_lt
    simp only [World.size_alloc] at hD
    gi_wp2_with fail
    refine ⟨trivial, ?_⟩
    refine (callsIn_wide.2 HSO.out).mono ?_
    rintro e w7 ⟨rfl, zs, hz1, hz2, hown7, hg7⟩
    have hs7 := hg7.size
    have hK7 : w7.heap[D]? = some (.deferred (some [])) := (hg7.block D (Array.getElem?_eq_some_iff.1 hK).1 (fun e => by
      obtain ⟨_, _, _, hrow⟩ := hown
      rcases hrow.2 with ⟨h1, _⟩ | ⟨g, cap, cur, h1, _, hg, _⟩
      · rw [h1] at e; cases e
      · rw [h1] at e
        cases e
        have := hK.symm.trans hg
        cases this)).trans hK
    have hbo7 : Boxed w7 w1.heap.size 35 vo := box_keep hbo (hg7.block _ hgw (fun e => hne e.symm))
    have hc7 := hbo7.cell
    have hgw7 : w1.heap.size < w7.heap.size := by omega
    have hB7 : Below w.heap.size w w7 := hB1.grown hg7 (by omega) (fun k hk => by have := (hlto k hk).1; omega)
    have hbD := belowK_b (w := w) (Nat.le_refl _) w7 D _ (.deferred none) (by omega) hK7 rfl rfl
    have hown8 := (hown7.frameC saS stateC (sameC_grown (grownBy_putObj' w7 D (.deferred none)) (fun r e => by cases e; exact ⟨_, hK7, rfl⟩)) (by simp))
    obtain ⟨Ao, co, rfl, -⟩ := id (hown7.toSl saS)
    gi_wp2
    refine ⟨by simp, .inl ⟨_, _, rfl, run_takeDeferred hK7, ?_⟩⟩
    exact ⟨.tuple #[.slice Ao zs.length co, .int .i64 0], by simp [results, Try.results16, go_sem], _, zs, rfl, hz1.trans HP.out, hz2, hown8.base_leS (by omega), hB7.trans hbD⟩
  case stop =>
    rintro D c pre W _ _ h _
    exact h.elim
end Go.Proofs.Ythabpkigflldmaa
