/- The program: read: the numbers of a line into the fields of a struct. -/
import Derived.Test.YtenaifmkejmdaaaGreatDoorAto
import Derived.Test.YtenaifmkejmdaaaGreatDoorTot
import Derived.IntWalk
namespace Go.Proofs.YtenaifmkejmdaaaGreatDoor
open Go.RowKit

def putZ (cs : Array Value) : List Nat → List Int → Array Value
  | o :: os, n :: ns => putZ (cs.setIfInBounds o (.int .i64 n)) os ns
  | _, _ => cs
theorem putZ_size : ∀ (os : List Nat) (ns : List Int) (cs : Array Value), (putZ cs os ns).size = cs.size
  | [], _, _ => by simp [putZ]
  | _ :: _, [], _ => by simp [putZ]
  | o :: os, n :: ns, cs => by rw [putZ, putZ_size os ns]; simp
theorem putZ_snoc : ∀ (os : List Nat) (ns : List Int) (cs : Array Value) (o : Nat) (n : Int), os[ns.length]? = some o → putZ cs os (ns ++ [n]) = (putZ cs os ns).setIfInBounds o (.int .i64 n)
  | [], ns, cs, o, n, h => by simp at h
  | o' :: os, [], cs, o, n, h => by
    simp at h
    subst h
    cases os <;> simp [putZ]
  | o' :: os, m :: ns, cs, o, n, h => by
    simp at h
    rw [List.cons_append, putZ, putZ]
    exact putZ_snoc os ns _ o n h
/-- all that was there stays, but for a block -/
structure But (b : Nat) (w W : World) : Prop where
  below : Below b w W
  same : ∀ k, k < w.heap.size → k ≠ b → W.heap[k]? = w.heap[k]?
theorem But.refl_ (b : Nat) (w : World) : But b w w := ⟨Below.refl _ _, fun _ _ _ => rfl⟩
theorem But.next {b : Nat} {w W W' : World} (h : But b w W) (hl : b ≤ W.heap.size) (h2 : Below W.heap.size W W') : But b w W' := ⟨h.below.trans (h2.mono hl), fun k hk hb => (h2.block k (Nat.lt_of_lt_of_le hk h.below.size)).trans (h.same k hk hb)⟩
theorem But.set {b o : Nat} {w W : World} (h : But b w W) (v : Value) : But b w (W.setCell ⟨b, o, none⟩ v) := ⟨h.below.setCell (p := ⟨b, o, none⟩) (Nat.le_refl _) v, fun k hk hb => (Below.heap_setCell _ _ _ _ hb).trans (h.same k hk hb)⟩
theorem But.cell {b : Nat} {w W : World} (h : But b w W) {a : Addr} {u : Value} (hc : w.cell? a = some u) (hb : a.block ≠ b) : W.cell? a = some u := (World.cell?_of_block (h.same a.block (World.block_lt_of_cell? w a hc) hb)).trans hc
theorem bs_ne {a b : ByteArray} (h : a ≠ b) : (a.toList == b.toList) = false := by
  rw [ByteArray.toList_eq, ByteArray.toList_eq]
  apply Bool.eq_false_iff.2
  intro hh
  have := beq_iff_eq.1 hh
  apply h
  exact (bytes_of this).trans rfl
theorem bs_eq (a : ByteArray) : (a.toList == a.toList) = true := beq_self_eq_true _
def toZ (l : List Nat) : List Int := l.map fun n : Nat => (n : Int)
/-- what read leaves in the block: the numbers, if all are numbers -/
def readQ (tl : List (List UInt8)) (os : List Nat) (cs : Array Value) (T : TypeId) (b : Nat) (w : World) (e : Ending) (w' : World) : Prop :=
  But b w w' ∧ e = .returned (.bool (numsO tl).isSome) ∧ ∃ ns : List Int, w'.heap[b]? = some (.cells (putZ cs os ns) T (0, 0)) ∧ ns.length ≤ os.length ∧ ∀ l, numsO tl = some l → ns = toZ l
theorem readNo_c (A g : Option Addr) (n c m k : Nat) (hl : n ≠ m) (w : World) : Calls Tryz.prog 46 #[.slice A n c, .slice g m k] w fun e w' => e = .returned (.bool false) ∧ w = w' := by
  have hli : ¬ (n : Int) = (m : Int) := by omega
  go_enter Tryz.func46, Tryz.ntmps46
  go_wp2
  go_ret
  exact ⟨rfl, rfl⟩
set_option maxRecDepth 100000 in
set_option maxHeartbeats 4000000 in
theorem read_c (ts : List ByteArray) (os : List Nat) (tv : Value) (cs : Array Value) (T : TypeId) (b g : Nat) (w : World) (F : Nat → Prop) (h : SlRep 1 (flat strEnc) w F ts tv) (hF : ∀ k, F k → k < w.heap.size ∧ k ≠ b)
    (hbk : w.heap[b]? = some (.cells cs T (0, 0))) (hgb : g ≠ b) (hp : ∀ (i : Nat) o, os[i]? = some o → w.cell? ⟨g, i, none⟩ = some (.pointer (some ⟨b, o, none⟩)) ∧ o < cs.size) (hsz : ∀ x ∈ ts, x.size ≤ 1000000)
    (hV : ∀ W : World, Below b w W → VarOk W) (hl : ts.length = os.length) (hlt : os.length ≤ 10) :
    Calls Tryz.prog 46 #[tv, .slice (some ⟨g, 0, none⟩) os.length os.length] w fun e w' => readQ (ts.map fun x => x.data.toList) os cs T b w e w' := by
  obtain ⟨A, c, rfl, -⟩ := id h
  have hbw := heap_ltA hbk
  · skip
    have HT := Lib.hid (fun (k : Nat) (x : ByteArray) (hx : ts[k]? = some x) => sl_str h hx)
    have HP := Lib.hid hp
    have HV := Lib.hid hV
    have HSZ := Lib.hid hsz
    have HFF := Lib.hid hF
    have HIX := Lib.hid (fun (k : Nat) (hk : k < os.length) => get_at os hk)
    generalize hTL : (ts.map fun x => x.data.toList) = tl at *
    have HTL := Lib.hid hTL
    clear hTL hp hV hsz hF h
    rw [hl]
    have hl := Lib.hid hl
    go_enter Tryz.func46, Tryz.ntmps46
    go_wp2
    go_loopw [16] (fun i wr => ∃ (k : Nat) (done : List Nat), k ≤ os.length ∧ done.length = k ∧ i = .int .i64 k ∧ Hid (numsO tl = (numsO (tl.drop k)).map (done ++ ·)) ∧ Hid (wr.heap[b]? = some (.cells (putZ cs os (toZ done)) T (0, 0))) ∧ But b w wr) (fun i _ => os.length - (intOf i).toNat)
    case atStart => exact ⟨0, [], Nat.zero_le _, rfl, rfl, Lib.hid (by simp), Lib.hid (by cases os <;> exact hbk), But.refl_ _ _⟩
    case round =>
      obtain ⟨k, done, hk, hdn, rfl, HS, HK, hbt⟩ := hrel
      have hbr := heap_ltA HK.out
      have hsr := hbt.below.size
      by_cases hlt2 : k < os.length
      · obtain ⟨x, hx⟩ := get_at ts (show k < ts.length by rw [hl.out]; exact hlt2)
        obtain ⟨o, ho⟩ := HIX.out k (by omega)
        obtain ⟨gt, off, rfl, hFg, z0⟩ := HT.out k x hx
        obtain ⟨z1, hos⟩ := HP.out k o ho
        have hnb := (HFF.out gt hFg).2
        have y0 := hbt.cell z0 hnb
        have y1 := hbt.cell z1 hgb
        have hxs := HSZ.out x (List.mem_of_getElem? hx)
        have HAT := Lib.hid (atoi_c x wr hxs (HV.out wr hbt.below))
        have HD := Lib.hid (show tl.drop k = x.data.toList :: tl.drop (k + 1) by rw [← HTL.out]; exact drop_at (by rw [List.getElem?_map, hx]; rfl))
        have HO := Lib.hid ho
        clear z0 z1 hx ho
        go_wp2_with fail
        refine HAT.out.mono ?_
        rintro e w1 ⟨hb1, ⟨v, rfl, hv, hn⟩ | ⟨v, t, p, rfl, hn⟩⟩
        · have hbt1 := hbt.next (Nat.le_of_lt hbr) hb1
          have HK1 := Lib.hid ((hb1.block b hbr).trans HK.out)
          have hsr1 := hb1.size
          have hbr1 := heap_ltA HK1.out
          have hxl : x.data.toList.length = x.size := Array.length_toList
          have HNO := Lib.hid (fun (hno : numO x.data.toList = none) => (show numsO tl = none by rw [HS.out, HD.out, numsO_cons, hno]; rfl))
          have HSZD : (toZ done).length ≤ os.length := by simp [toZ]; omega
          clear HK
          by_cases h10 : 10 < x.size
          · have HE := Lib.hid (HNO.out (by
              cases hno : numO x.data.toList with
              | none => rfl
              | some n => have := ((numO_iff _ n).1 hno).1; omega))
            have hi10 : (10 : Int) < (x.size : Int) := by omega
            clear HS HD HNO
            go_wp2
            go_ret
            exact ⟨hbt1, by rw [HE.out]; rfl, toZ done, HK1.out, HSZD, fun l hl => by rw [HE.out] at hl; cases hl⟩
          · have hi10 : ¬ (10 : Int) < (x.size : Int) := by omega
            by_cases hv0 : v < 0
            · have HE := Lib.hid (HNO.out (by
                cases hno : numO x.data.toList with
                | none => rfl
                | some n => have := hn n hno; omega))
              clear HS HD HNO
              go_wp2
              go_ret
              exact ⟨hbt1, by rw [HE.out]; rfl, toZ done, HK1.out, HSZD, fun l hl => by rw [HE.out] at hl; cases hl⟩
            · have hv1 : (0 : Int) ≤ v := by omega
              have HIT := Lib.hid (Tryz.strconv_Itoa v hv.1 hv.2 w1 ((HV.out w1 hbt1.below).tab))
              have HITL := Lib.hid (show (⟨(Lib.itoa v).toArray⟩ : ByteArray).data.toList = Lib.itoa v from rfl)
              have hvd : decide (v < 0) = false := by simpa using hv1
              have h10d : decide ((10 : Int) < (x.size : Int)) = false := by simpa using hi10
              generalize (⟨(Lib.itoa v).toArray⟩ : ByteArray) = it at *
              by_cases hix : it = x
              · subst hix
                have hno : numO it.data.toList = some v.toNat := (numO_iff _ _).2 ⟨by omega, by rw [HITL.out, ← itoa_nat, Int.toNat_of_nonneg hv1]⟩
                have HE := Lib.hid (show numsO tl = (numsO (tl.drop (k + 1))).map ((done ++ [v.toNat]) ++ ·) by
                  rw [HS.out, HD.out, numsO_cons, hno]
                  cases numsO (tl.drop (k + 1)) <;> simp)
                clear HS HD HNO hno hn
                go_wp2_with fail
                refine HIT.out.mono ?_
                rintro e w2 ⟨rfl, hg2⟩
                have hb2 := below_of_grow hg2
                clear hg2
                have hbt2 := hbt1.next (Nat.le_of_lt hbr1) hb2
                have HK2 := (hb2.block b hbr1).trans HK1.out
                have hos2 : o < (putZ cs os (toZ done)).size := by rw [putZ_size]; exact hos
                have q1 := hb2.cell (p := ⟨g, k, none⟩) (Nat.lt_of_lt_of_le (World.block_lt_of_cell? wr _ y1) hsr1) |>.trans ((hb1.cell (p := ⟨g, k, none⟩) (World.block_lt_of_cell? wr _ y1)).trans y1)
                have q2 : w2.cell? ⟨b, o, none⟩ = some ((putZ cs os (toZ done))[o]'hos2) := by rw [Lib.cell_of_heap HK2]; exact Array.getElem?_eq_getElem hos2
                have q3 := Lib.frozen_of_heap HK2 o
                have hbs := bs_eq it
                have HKN := Lib.hid (show (w2.setCell ⟨b, o, none⟩ (.int .i64 v)).heap[b]? = some (.cells (putZ cs os (toZ (done ++ [v.toNat]))) T (0, 0)) by
                  have hz : toZ (done ++ [v.toNat]) = toZ done ++ [v] := by unfold toZ; rw [List.map_append]; simp [Int.toNat_of_nonneg hv1]
                  rw [hz, putZ_snoc os (toZ done) cs o v (by rw [show (toZ done).length = k by simp [toZ]; omega]; exact HO.out)]
                  simp [World.setCell, Array.getElem?_modify, HK2])
                have hbtN := hbt2.set (o := o) (.int .i64 v)
                clear HK2
                go_wp2
                go_roundw
                case rel => exact ⟨k + 1, done ++ [v.toNat], by omega, by simp; omega, by go_num, HE, HKN, hbtN⟩
                case measure => simp [intOf]; omega
              · have hbs := bs_ne hix
                have HE := Lib.hid (HNO.out (by
                  cases hno : numO x.data.toList with
                  | none => rfl
                  | some n =>
                    exfalso
                    have h1 := hn n hno
                    have h2 := (num_atoi hno).2.2
                    rw [← h1, ← HITL.out] at h2
                    apply hix
                    exact (bytes_of h2).trans rfl))
                clear HS HD HNO hn
                go_wp2_with fail
                refine HIT.out.mono ?_
                rintro e w2 ⟨rfl, hg2⟩
                have hb2 := below_of_grow hg2
                clear hg2
                go_wp2
                go_ret
                exact ⟨hbt1.next (Nat.le_of_lt hbr1) hb2, by rw [HE.out]; rfl, toZ done, (hb2.block b hbr1).trans HK1.out, HSZD, fun l hl => by rw [HE.out] at hl; cases hl⟩
        · have HE := Lib.hid (show numsO tl = none by rw [HS.out, HD.out, numsO_cons, hn]; rfl)
          clear HS HD
          go_wp2
          go_ret
          refine ⟨hbt.next (Nat.le_of_lt hbr) hb1, by rw [HE.out]; rfl, toZ done, (hb1.block b hbr).trans HK.out, by simp [toZ]; omega, fun l hl => by rw [HE.out] at hl; cases hl⟩
      · have hke : k = os.length := by omega
        have HE := Lib.hid (show numsO tl = some done by rw [HS.out, List.drop_of_length_le (by rw [← HTL.out, List.length_map, hl.out]; omega)]; simp [numsO])
        clear HS
        go_wp2
        go_ret
        exact ⟨hbt, by rw [HE.out]; rfl, toZ done, HK.out, by simp [toZ]; omega, fun l hl => by rw [HE.out] at hl; cases hl; rfl⟩
end Go.Proofs.YtenaifmkejmdaaaGreatDoor
