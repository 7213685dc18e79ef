/- Words for numbered. -/
import Derived.Test.YtngodakkdhdmjaaGreatDoorPlE
import Derived.Test.YtngodakkdhdmjaaGreatDoorShelf
namespace Go.Proofs.YtngodakkdhdmjaaGreatDoor
open Go.RowKit

abbrev NumMap (w : World) (b : Nat) (f : Int → Option ByteArray) : Prop := MapF w b (fun n : Int => Value.int .i64 n) Value.string f
abbrev KidMap (w : World) (b : Nat) (f : Int → Option Nat) : Prop := MapF w b (fun n : Int => Value.int .i64 n) (fun n : Nat => Value.int .i64 n) f
theorem intKind : KeyKind Tryz.prog 3 (fun n : Int => Value.int .i64 n) := int_kind Tryz.underlying3
theorem zeroInt (w : World) : (zeroValue 3).run Tryz.prog w = .ok (.int .i64 0) w := by kernel_rfl
theorem zeroStr (w : World) : (zeroValue 9).run Tryz.prog w = .ok (.string ⟨#[]⟩) w := by kernel_rfl
/-- nothing turns but three blocks -/
structure Aside (m : Nat) (W W' : World) : Prop where
  size : W.heap.size ≤ W'.heap.size
  same : ∀ b, b < W.heap.size → (b < m ∨ m + 3 ≤ b) → W'.heap[b]? = W.heap[b]?
theorem Aside.refl (m : Nat) (W : World) : Aside m W W := ⟨Nat.le_refl _, fun _ _ _ => rfl⟩
theorem Aside.trans {m : Nat} {W1 W2 W3 : World} (h1 : Aside m W1 W2) (h2 : Aside m W2 W3) : Aside m W1 W3 := ⟨Nat.le_trans h1.size h2.size, fun b hb hm => (h2.same b (Nat.lt_of_lt_of_le hb h1.size) hm).trans (h1.same b hb hm)⟩
theorem Aside.below {m : Nat} {W W' : World} (h : Below W.heap.size W W') : Aside m W W' := ⟨h.size, fun b hb _ => h.block b hb⟩
theorem Aside.grown {m o : Nat} {W W' : World} (h : W.grownBy W' (some o)) (h1 : m ≤ o) (h2 : o < m + 3) : Aside m W W' := ⟨h.size, fun b hb hm => h.block b hb (fun e => by injection e; omega)⟩
section
variable {κ ν : Type} [DecidableEq κ] {P : Program} {w : World} {b : Nat} {kenc : κ → Value} {venc : ν → Value}
theorem look_val {t kt et : TypeId} (hK : KeyKind P kt kenc) (ht : P.underlying t = some (.map kt et)) {z : Value} (hz : (zeroValue et).run P w = .ok z w)
    {f : κ → Option ν} (h : MapF w b kenc venc f) {k : κ} {val : Value} (hval : (match f k with | none => z | some v => venc v) = val) : (Instr.lookup t (.map (some b)) (kenc k) false).run P w = .ok val w := by
  have hrun := run_lookup_at hK ht hz h k false
  rw [hrun, ← hval]
  cases f k <;> rfl
end
theorem digits_le {i : Nat} (h : i < 100) : (⟨(Lib.decDigits i).toArray⟩ : ByteArray).size ≤ 2 := by
  show (Lib.decDigits i).toArray.size ≤ 2
  rw [List.size_toArray, Lib.decDigits]
  split
  · simp
  · rw [Lib.decDigits]
    split
    · simp
    · omega
theorem subS_size {a : ByteArray} {n : Nat} (h : n < 100) : (subS a n).size ≤ a.size + 3 := by
  unfold subS
  rw [ByteArray.size_append, ByteArray.size_append]
  have := digits_le h
  show a.size + 1 + (digS n).size ≤ a.size + 3
  unfold digS
  omega
theorem secnG_cons (root : Int) (st : Tab) (s : Sheet) (r : List Sheet) : secnG root st (s :: r) = match (secnS root st s).1 s.unit with
    | none => secnG root (secnS root st s) r
    | some n => (s, n) :: secnG root (secnS root st s) r := rfl

set_option maxRecDepth 100000 in
set_option maxHeartbeats 8000000 in
theorem numbered2_c (F : FuncId) (c0 c1 : Value) (xs : List Sheet) (root : Int) (v1 v2 v3 : Value) (w : World) (B : Nat) (hB : B ≤ w.heap.size) (h : Sheets w B xs v3) (h14 : xs.length ≤ 14)
    (hF : ∀ (args : Array Value) (W : World), (callFunc F args).run Tryz.prog W = .ok (.enter F args) W)
    (J : List (Sheet × ByteArray) → World → Prop) (hJ0 : ∀ W, Below w.heap.size w W → J [] W) (hJs : ∀ out W W', J out W → Aside w.heap.size W W' → J out W')
    (hJ : ∀ out s n vf W, J out W → Below B w W → w.heap.size + 3 ≤ W.heap.size → s ∈ xs → SlRep 3 (flat Fact.enc) W (fun b => b < B) s.facts vf → n.size ≤ 60 → out.length ≤ 14 →
      Calls Tryz.prog F #[.agg #[.int .i64 s.unit, .int .i64 s.parent, .int .i64 s.level, .string s.mark, .string s.title, vf], .string n, c0, c1] W fun e w' => e = .returned (.tuple #[]) ∧ J (out ++ [(s, n)]) w' ∧ Below B w w' ∧ W.heap.size ≤ w'.heap.size ∧ ∀ b, w.heap.size ≤ b → b < w.heap.size + 3 → w'.heap[b]? = W.heap[b]?) :
    Calls Tryz.prog 115 #[.agg #[v1, v2, v3], .int .i64 root, .func (.func F) #[] #[c0, c1]] w fun e w' => e = .returned (.tuple #[]) ∧ J (secnF xs root) w' ∧ Below B w w' ∧ w.heap.size ≤ w'.heap.size := by
  have hmm := @run_makeMap Tryz.prog
  have HJ := Lib.hid hJ
  have HJs := Lib.hid hJs
  have HJ0 := Lib.hid (hJ0 _ ((((Below.refl w.heap.size w).alloc (Nat.le_refl _) (.cells #[v1, v2, v3] 41)).alloc (by simp) (.map #[] 0)).alloc (by simp; omega) (.map #[] 0)))
  clear hJ hJs hJ0
  obtain ⟨A, ca, rfl, hc1, hc2, _⟩ := id h
  have HE := Lib.hid (show secnF xs root = [] ++ secnG root tab0 (xs.drop 0) from rfl)
  have HM1 := Lib.hid ((MapF.new (w.alloc (.cells #[v1, v2, .slice A xs.length ca] 41)) (fun n : Int => Value.int .i64 n) Value.string (g := w.heap.size + 1) (by simp)).below (w' := ((w.alloc (.cells #[v1, v2, .slice A xs.length ca] 41)).alloc (.map #[] 0)).alloc (.map #[] 0)) ((Below.refl _ _).alloc (Nat.le_refl _) _) (by simp))
  have HM2 := Lib.hid (MapF.new ((w.alloc (.cells #[v1, v2, .slice A xs.length ca] 41)).alloc (.map #[] 0)) (fun n : Int => Value.int .i64 n) (fun n : Nat => Value.int .i64 n) (g := w.heap.size + 1 + 1) (by simp))
  have HB0 := Lib.hid ((((Below.refl B w).alloc hB (.cells #[v1, v2, .slice A xs.length ca] 41)).alloc (by simp; omega) (.map #[] 0)).alloc (by simp; omega) (.map #[] 0))
  go_enter Tryz.func115, Tryz.ntmps115
  go_wp2
  go_loopw [19] (fun v19 wr => ∃ (k : Nat) (st : Tab) (out : List (Sheet × ByteArray)), k ≤ xs.length ∧ v19 = .int .i64 k ∧ Hid (secnF xs root = out ++ secnG root st (xs.drop k)) ∧ NumMap wr (w.heap.size + 1) st.1 ∧ KidMap wr (w.heap.size + 1 + 1) st.2 ∧ (∀ u n, st.1 u = some n → n.size ≤ 1 + 3 * k) ∧ (∀ u, (st.2 u).getD 0 ≤ k) ∧ out.length ≤ k ∧ J out wr ∧ Below B w wr ∧ w.heap.size + 3 ≤ wr.heap.size) (fun v19 _ => xs.length - (intOf v19).toNat)
  case atStart => exact ⟨0, tab0, [], Nat.zero_le _, rfl, HE, HM1.out, HM2.out, fun u n h => (by cases h), fun u => Nat.le_refl _, Nat.le_refl _, HJ0.out, HB0.out, by simp⟩
  case round =>
    clear HE HM1 HM2 HJ0 HB0 hmm
    obtain ⟨k, st, out, hk, rfl, HS, hm1, hm2, hz1, hz2, hol, hj, Br, hsz⟩ := hrel
    by_cases hlt : k < xs.length
    · obtain ⟨s, hx⟩ := get_at xs hlt
      have HD := Lib.hid (show secnF xs root = out ++ secnG root st (s :: xs.drop (k + 1)) by rw [HS.out, drop_at hx])
      have HSM := Lib.hid (List.mem_of_getElem? hx)
      obtain ⟨b, off, vf, rfl, hbB, g0, g1, g2, g3, g4, g5, hvf⟩ := Sheets.at_ (h.below shtS Br) hx
      obtain ⟨Af, cf, rfl, -⟩ := id hvf
      have hbw : b < wr.heap.size := by omega
      have bx := (Below.refl wr.heap.size wr).alloc (Nat.le_refl _) (shtC s (.slice Af s.facts.length cf))
      have Bx := Br.trans (bx.mono (by omega))
      have hjx := HJs.out _ _ _ hj (Aside.below bx)
      have hm1l := hm1.lt
      have hm2l := hm2.lt
      have hm1x := hm1.below bx hm1l
      have hm2x := hm2.below bx hm2l
      have HZ1 := Lib.hid hz1
      have HZ2 := Lib.hid hz2
      have HVF := Lib.hid hvf
      obtain ⟨nm, kd⟩ := st
      simp only at hm1 hm2 hm1x hm2x HZ1 HZ2
      clear hx HS hz1 hz2 hj hvf
      by_cases hr : s.unit = root
      · have hr1 : (s.unit == root) = true := by simp [hr]
        have HN := Lib.hid (show secnF xs root = (out ++ [(s, oneS)]) ++ secnG root (upd nm s.unit oneS, kd) (xs.drop (k + 1)) by
          rw [HD.out, secnG_cons]; unfold secnS; rw [if_pos hr]; simp [upd])
        clear hr HD
        go_wp2_with (at_mapUpdate; refine stop_intro ?_)
        refine stop_elim ?_
        refine wpList_mapPut rfl (.tmp 27) (.tmp 29) (.const (.string ⟨#[49]⟩)) 181 (.inl rfl) intKind Tryz.underlying181 hm1x rfl s.unit rfl oneS rfl ?_
        intro w1 hn1 hg1
        have hA1 : Aside w.heap.size (wr.alloc (shtC s (.slice Af s.facts.length cf))) w1 := Aside.grown hg1 (by omega) (by omega)
        have hs1 := hA1.size
        simp only [World.size_alloc] at hs1
        have hk1 : KidMap w1 (w.heap.size + 1 + 1) kd := hm2x.frame (hg1.block _ (by simp; omega) (by simp))
        have hj1 := HJs.out _ _ _ hjx hA1
        have B1 := Bx.grown hg1 (by simp; omega) (fun k hk => by injection hk; omega)
        have hv1 := HVF.out.frame (w' := w1) fctS (fun b hb => by rw [B1.block b hb, Br.block b hb])
        have hy : ∀ j, w1.cell? ⟨wr.heap.size, j, none⟩ = (wr.alloc (shtC s (.slice Af s.facts.length cf))).cell? ⟨wr.heap.size, j, none⟩ := fun j => World.cell?_of_block (a := ⟨wr.heap.size, j, none⟩) (hg1.block _ (by simp) (by simp; omega))
        have y0 := (hy 0).trans (show _ = some (.int .i64 s.unit) by simp)
        have y1 := (hy 1).trans (show _ = some (.int .i64 s.parent) by simp)
        have y2 := (hy 2).trans (show _ = some (.int .i64 s.level) by simp)
        have y3 := (hy 3).trans (show _ = some (.string s.mark) by simp)
        have y4 := (hy 4).trans (show _ = some (.string s.title) by simp)
        have y5 := (hy 5).trans (show _ = some (.slice Af s.facts.length cf) by simp)
        clear hy hm1 hm2 hm1x hm2x hm1l hm2l g0 g1 g2 g3 g4 g5 hg1 hjx Bx bx
        go_wp2_with (at_lookup; refine stop_intro ?_)
        refine stop_elim ?_
        refine wpList_look rfl (.tmp 55) (.tmp 57) 181 true rfl intKind Tryz.underlying181 (zeroStr _) hn1 rfl s.unit rfl (.tuple #[.string oneS, .bool true]) (by simp [upd]) ?_
        go_wp2_with fail
        refine (HJ.out out s (oneS) _ w1 hj1 B1 (by omega) HSM.out hv1 (by decide) (by omega)).mono ?_
        rintro e w2 ⟨rfl, hj2, B2, hs2, hsame⟩
        go_wp2
        go_roundw
        case rel => exact ⟨k + 1, (upd nm s.unit oneS, kd), out ++ [(s, oneS)], by omega, by go_num, HN, hn1.frame (hsame _ (by omega) (by omega)), hk1.frame (hsame _ (by omega) (by omega)), (by intro u n hu; have := HZ1.out u n; simp only [upd] at hu; split at hu; (injection hu with hu; subst hu; exact Nat.le_trans (by decide : oneS.size ≤ 1) (by omega)); (have := this hu; omega)), fun u => Nat.le_trans (HZ2.out u) (Nat.le_succ k), by simp; omega, hj2, B2, by omega⟩
        case measure => simp [intOf]; omega
      · have hr1 : (s.unit == root) = false := by simp [hr]
        cases hp : nm s.parent with
        | none =>
          go_wp2_with (at_lookup; refine stop_intro ?_)
          refine stop_elim ?_
          refine wpList_look rfl (.tmp 31) (.tmp 33) 181 true rfl intKind Tryz.underlying181 (zeroStr _) hm1x rfl s.parent rfl (.tuple #[.string ⟨#[]⟩, .bool false]) (by rw [hp]; rfl) ?_
          have hv1 := HVF.out.frame (w' := wr.alloc (shtC s (.slice Af s.facts.length cf))) fctS (fun b hb => by rw [Bx.block b hb, Br.block b hb])
          cases hsu : nm s.unit with
          | none =>
            have HN := Lib.hid (show secnF xs root = out ++ secnG root (nm, kd) (xs.drop (k + 1)) by
              rw [HD.out, secnG_cons]; unfold secnS; rw [if_neg hr]; simp only [hp, hsu])
            clear hr HD hp
            go_wp2_with (at_lookup; refine stop_intro ?_)
            refine stop_elim ?_
            refine wpList_look rfl (.tmp 55) (.tmp 57) 181 true rfl intKind Tryz.underlying181 (zeroStr _) hm1x rfl s.unit rfl (.tuple #[.string ⟨#[]⟩, .bool false]) (by rw [hsu]; rfl) ?_
            clear hsu
            go_wp2
            go_roundw
            case rel => exact ⟨k + 1, (nm, kd), out, by omega, by go_num, HN, hm1x, hm2x, (fun u n hu => by have := HZ1.out u n hu; omega), (fun u => Nat.le_trans (HZ2.out u) (Nat.le_succ k)), by omega, hjx, Bx, by simp; omega⟩
            case measure => simp [intOf]; omega
          | some n0 =>
            have HN := Lib.hid (show secnF xs root = (out ++ [(s, n0)]) ++ secnG root (nm, kd) (xs.drop (k + 1)) by
              rw [HD.out, secnG_cons]; unfold secnS; rw [if_neg hr]; simp only [hp, hsu, List.append_assoc]; rfl)
            have HN0 := Lib.hid (HZ1.out s.unit n0 hsu)
            clear hr HD hp
            go_wp2_with (at_lookup; refine stop_intro ?_)
            refine stop_elim ?_
            refine wpList_look rfl (.tmp 55) (.tmp 57) 181 true rfl intKind Tryz.underlying181 (zeroStr _) hm1x rfl s.unit rfl (.tuple #[.string n0, .bool true]) (by rw [hsu]; rfl) ?_
            clear hsu
            go_wp2_with fail
            refine (HJ.out out s n0 _ _ hjx Bx (by simp; omega) HSM.out hv1 (by have := HN0.out; omega) (by omega)).mono ?_
            rintro e w2 ⟨rfl, hj2, B2, hs2, hsame⟩
            simp only [World.size_alloc] at hs2 hsame
            go_wp2
            go_roundw
            case rel => exact ⟨k + 1, (nm, kd), out ++ [(s, n0)], by omega, by go_num, HN, hm1x.frame (hsame _ (by omega) (by omega)), hm2x.frame (hsame _ (by omega) (by omega)), (fun u n hu => by have := HZ1.out u n hu; omega), (fun u => Nat.le_trans (HZ2.out u) (Nat.le_succ k)), by simp; omega, hj2, B2, by omega⟩
            case measure => simp [intOf]; omega
        | some a =>
          have HA := Lib.hid (HZ1.out s.parent a hp)
          obtain ⟨q, hq⟩ : ∃ q, (kd s.parent).getD 0 = q := ⟨_, rfl⟩
          have HQ := Lib.hid (show q ≤ k by rw [← hq]; exact HZ2.out s.parent)
          have HKV := Lib.hid (show (match kd s.parent with | none => Value.int .i64 0 | some v => Value.int .i64 v) = .int .i64 q by rw [← hq]; cases kd s.parent <;> rfl)
          have HN := Lib.hid (show secnF xs root = (out ++ [(s, subS a (q + 1))]) ++ secnG root (upd nm s.unit (subS a (q + 1)), upd kd s.parent (q + 1)) (xs.drop (k + 1)) by
            rw [HD.out, secnG_cons]; unfold secnS; rw [if_neg hr]; simp only [hp, hq]; simp [upd])
          clear hr HD hq
          go_wp2_with (at_lookup; refine stop_intro ?_)
          refine stop_elim ?_
          refine wpList_look rfl (.tmp 31) (.tmp 33) 181 true rfl intKind Tryz.underlying181 (zeroStr _) hm1x rfl s.parent rfl (.tuple #[.string a, .bool true]) (by rw [hp]; rfl) ?_
          clear hp
          go_wp2_with (at_lookup; refine stop_intro ?_)
          refine stop_elim ?_
          refine wpList_look rfl (.tmp 38) (.tmp 40) 182 false rfl intKind Tryz.underlying182 (zeroInt _) hm2x rfl s.parent rfl (.int .i64 q) (by rw [← HKV.out]; cases kd s.parent <;> rfl) ?_
          have hq1 : IntKind.i64.wrap ((q : Int) + 1) = (q : Int) + 1 := IntWalk.i64_in _ (by have := HQ.out; omega)
          go_wp2_with (at_mapUpdate; refine stop_intro ?_)
          refine stop_elim ?_
          refine wpList_mapPut rfl (.tmp 38) (.tmp 40) (.tmp 42) 182 (.inl rfl) intKind Tryz.underlying182 hm2x rfl s.parent rfl (q + 1) (by first | rfl | simp [Act.eval]) ?_
          intro wk hkk hgk
          have hAk : Aside w.heap.size (wr.alloc (shtC s (.slice Af s.facts.length cf))) wk := Aside.grown hgk (by omega) (by omega)
          have hsk := hAk.size
          simp only [World.size_alloc] at hsk
          have hnk : NumMap wk (w.heap.size + 1) nm := hm1x.frame (hgk.block _ (by simp; omega) (by simp))
          have hjk := HJs.out _ _ _ hjx hAk
          have Bk := Bx.grown hgk (by simp; omega) (fun k hk => by injection hk; omega)
          have hy : ∀ j, wk.cell? ⟨wr.heap.size, j, none⟩ = (wr.alloc (shtC s (.slice Af s.facts.length cf))).cell? ⟨wr.heap.size, j, none⟩ := fun j => World.cell?_of_block (a := ⟨wr.heap.size, j, none⟩) (hgk.block _ (by simp) (by simp; omega))
          have y0 := (hy 0).trans (show _ = some (.int .i64 s.unit) by simp)
          have y1 := (hy 1).trans (show _ = some (.int .i64 s.parent) by simp)
          have y2 := (hy 2).trans (show _ = some (.int .i64 s.level) by simp)
          have y3 := (hy 3).trans (show _ = some (.string s.mark) by simp)
          have y4 := (hy 4).trans (show _ = some (.string s.title) by simp)
          have y5 := (hy 5).trans (show _ = some (.slice Af s.facts.length cf) by simp)
          have HAS := Lib.hid (show a.size ≤ 1 + 3 * k from HA.out)
          have hlk : (Instr.lookup 182 (.map (some (w.heap.size + 1 + 1))) (.int .i64 s.parent) false).run Tryz.prog wk.drew = .ok (.int .i64 ((q : Int) + 1)) wk.drew := look_val intKind Tryz.underlying182 (zeroInt _) (hkk.frame (w' := wk.drew) rfl) (by simp [upd])
          have HMU := Lib.hid (show ∃ w', (Instr.mapUpdate 181 (.map (some (w.heap.size + 1))) (.int .i64 s.unit) (.string (subS a (q + 1)))).run Tryz.prog wk.drew = .ok () w' ∧ NumMap w' (w.heap.size + 1) (upd nm s.unit (subS a (q + 1))) ∧ wk.drew.grownBy w' (some (w.heap.size + 1)) from run_mapUpdate_at intKind Tryz.underlying181 (hnk.frame (w' := wk.drew) rfl) s.unit (subS a (q + 1)))
          have HIT := Lib.hid (fun (W : World) => show Calls Tryz.prog 160 #[.int .i64 ((q : Int) + 1)] W _ from Tryz.strconv_Itoa_small (q + 1) (by have := HQ.out; omega) W)
          have hds := digits_le (i := q + 1) (by have := HQ.out; omega)
          have HSUB := Lib.hid (show subS a (q + 1) = a ++ ⟨#[46]⟩ ++ ⟨(Lib.decDigits (q + 1)).toArray⟩ from rfl)
          generalize (⟨(Lib.decDigits (q + 1)).toArray⟩ : ByteArray) = dg at *
          have hc4 : ¬ 9223372036854775807 < a.size + 1 := by have := HAS.out; omega
          have hc5 : ¬ 9223372036854775807 < a.size + 1 + dg.size := by have := HAS.out; omega
          have hc6 : (a ++ ⟨#[46]⟩).size = a.size + 1 := by rw [ByteArray.size_append]; rfl
          have x0 : wk.drew.cell? ⟨wr.heap.size, 0, none⟩ = some (.int .i64 s.unit) := y0
          have x1 : wk.drew.cell? ⟨wr.heap.size, 1, none⟩ = some (.int .i64 s.parent) := y1
          rw [HSUB.out] at HMU HN
          obtain ⟨w1, hmu, hn1, hg1⟩ := HMU.out
          have hsz1 := hg1.size
          simp only [World.size_drew] at hsz1
          have hA1 : Aside w.heap.size wk.drew w1 := Aside.grown hg1 (by omega) (by omega)
          have hk1 : KidMap w1 (w.heap.size + 1 + 1) (upd kd s.parent (q + 1)) := (hkk.frame (w' := wk.drew) rfl).frame (hg1.block _ (by simp; omega) (by simp))
          have hj1 := HJs.out _ _ _ (HJs.out _ _ _ hjk (Aside.below (Below.refl _ wk).drew)) hA1
          have B1 := Bk.drew.grown hg1 (by simp; omega) (fun k hk => by injection hk; omega)
          have hv1 := HVF.out.frame (w' := w1) fctS (fun b hb => by rw [B1.block b hb, Br.block b hb])
          have hs1 : wr.heap.size + 1 ≤ w1.heap.size := by omega
          have hy : ∀ j, w1.cell? ⟨wr.heap.size, j, none⟩ = wk.drew.cell? ⟨wr.heap.size, j, none⟩ := fun j => World.cell?_of_block (a := ⟨wr.heap.size, j, none⟩) (hg1.block _ (by simp; omega) (by simp; omega))
          have z0 := (hy 0).trans (show wk.drew.cell? ⟨wr.heap.size, 0, none⟩ = some (.int .i64 s.unit) from y0)
          have z1 := (hy 1).trans (show wk.drew.cell? ⟨wr.heap.size, 1, none⟩ = some (.int .i64 s.parent) from y1)
          have z2 := (hy 2).trans (show wk.drew.cell? ⟨wr.heap.size, 2, none⟩ = some (.int .i64 s.level) from y2)
          have z3 := (hy 3).trans (show wk.drew.cell? ⟨wr.heap.size, 3, none⟩ = some (.string s.mark) from y3)
          have z4 := (hy 4).trans (show wk.drew.cell? ⟨wr.heap.size, 4, none⟩ = some (.string s.title) from y4)
          have z5 := (hy 5).trans (show wk.drew.cell? ⟨wr.heap.size, 5, none⟩ = some (.slice Af s.facts.length cf) from y5)
          clear hy y2 y3 y4 y5 hm1 hm2 hm1x hm2x hm1l hm2l g0 g1 g2 g3 g4 g5 hjx hjk Bx bx hAk hkk hnk
          go_wp2
          go_region_held3 (fun W => W.cell? ⟨wr.heap.size, 0, none⟩ = some (.int .i64 s.unit) ∧ W.cell? ⟨wr.heap.size, 1, none⟩ = some (.int .i64 s.parent)) (first | with_reducible exact ⟨x0, x1⟩ | with_reducible exact ⟨z0, z1⟩) (first
            | (go_at_call 160; (with_reducible refine (HIT.out _).mono ?_); rintro e wI ⟨rfl, rfl⟩))
          clear x0 x1 y0 y1 hlk hmu hg1
          go_wp2_with (at_lookup; refine stop_intro ?_)
          refine stop_elim ?_
          refine wpList_look rfl (.tmp 55) (.tmp 57) 181 true rfl intKind Tryz.underlying181 (zeroStr _) hn1 rfl s.unit rfl (.tuple #[.string (a ++ ⟨#[46]⟩ ++ dg), .bool true]) (by simp [upd]) ?_
          go_wp2_with fail
          refine (HJ.out out s ((a ++ ⟨#[46]⟩ ++ dg)) _ w1 hj1 B1 (by omega) HSM.out hv1 (by rw [ByteArray.size_append, hc6]; have := HAS.out; omega) (by omega)).mono ?_
          rintro e w2 ⟨rfl, hj2, B2, hs2, hsame⟩
          go_wp2
          go_roundw
          case rel => exact ⟨k + 1, (upd nm s.unit (a ++ ⟨#[46]⟩ ++ dg), upd kd s.parent (q + 1)), out ++ [(s, (a ++ ⟨#[46]⟩ ++ dg))], by omega, by go_num, HN, hn1.frame (hsame _ (by omega) (by omega)), hk1.frame (hsame _ (by omega) (by omega)), (by intro u n hu; have := HZ1.out u n; simp only [upd] at hu; split at hu; (injection hu with hu; subst hu; rw [ByteArray.size_append, hc6]; have := HAS.out; omega); (have := this hu; omega)), (fun u => by have h1 := HZ2.out u; have h2 := HQ.out; simp only [upd]; split <;> simp <;> omega), by simp; omega, hj2, B2, by omega⟩
          case measure => simp [intOf]; omega
    · have HR := Lib.hid (show secnF xs root = out by rw [HS.out, List.drop_of_length_le (by omega)]; simp [secnG])
      clear HS
      go_wp2
      go_end0
      exact ⟨rfl, by rw [HR.out]; exact hj, Br, by omega⟩

end Go.Proofs.YtngodakkdhdmjaaGreatDoor
