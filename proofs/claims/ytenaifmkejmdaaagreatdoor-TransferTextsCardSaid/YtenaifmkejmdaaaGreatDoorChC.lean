/- The program: Check, right. -/
import Derived.Test.YtenaifmkejmdaaaGreatDoorItC
import Derived.Test.YtenaifmkejmdaaaGreatDoorMaps
import Derived.Test.YtenaifmkejmdaaaGreatDoorTwo
namespace Go.Proofs.YtenaifmkejmdaaaGreatDoor
open Go.RowKit

theorem heap_ltA {w : World} {b : Nat} {o : Obj} (h : w.heap[b]? = some o) : b < w.heap.size := by
  rcases Nat.lt_or_ge b w.heap.size with h' | h'
  · exact h'
  · simp [Array.getElem?_eq_none h'] at h
theorem below_of_drewA {w w' : World} (B : Nat) (h : ∃ n, w' = w.drewN n) : Below B w w' := by
  obtain ⟨n, rfl⟩ := h
  exact below_drewN (Below.refl _ _) n
abbrev TLRep (w : World) (B : Nat) (l : TL) (v : Value) : Prop := SlRep 7 (flat Item.enc) w (fun b => b < B) l.items v
abbrev tlV (l : TL) (v : Value) : Value := .agg #[.int .i64 l.id, .int .i64 l.office, .int .i64 l.day, v]
abbrev tlC (l : TL) (v : Value) : Obj := .cells #[.int .i64 l.id, .int .i64 l.office, .int .i64 l.day, v] 24
theorem tlW_at {w W : World} {l : TL} {v : Value} (hW : Below (w.heap.size + 1) (w.alloc (tlC l v)) W) : W.cell? ⟨w.heap.size, 0, none⟩ = some (.int .i64 l.id) ∧ W.cell? ⟨w.heap.size, 1, none⟩ = some (.int .i64 l.office) ∧ W.cell? ⟨w.heap.size, 2, none⟩ = some (.int .i64 l.day) ∧ W.cell? ⟨w.heap.size, 3, none⟩ = some v ∧ w.heap.size < W.heap.size :=
  ⟨(hW.cell (p := ⟨w.heap.size, 0, none⟩) (by simp)).trans (by simp), (hW.cell (p := ⟨w.heap.size, 1, none⟩) (by simp)).trans (by simp), (hW.cell (p := ⟨w.heap.size, 2, none⟩) (by simp)).trans (by simp), (hW.cell (p := ⟨w.heap.size, 3, none⟩) (by simp)).trans (by simp), by have := hW.size; simp at this; omega⟩
theorem itmW_at {w W : World} {x : Item} (hW : Below (w.heap.size + 1) (w.alloc (itmC x)) W) : W.cell? ⟨w.heap.size, 0, none⟩ = some (.int .i64 x.number) ∧ W.cell? ⟨w.heap.size, 1, none⟩ = some (.int .i64 x.file) ∧ W.cell? ⟨w.heap.size, 2, none⟩ = some (.string x.title) ∧ W.cell? ⟨w.heap.size, 3, none⟩ = some (.int .i64 x.first) ∧ W.cell? ⟨w.heap.size, 4, none⟩ = some (.int .i64 x.last) ∧ W.cell? ⟨w.heap.size, 5, none⟩ = some (.int .i64 x.pages) ∧ W.cell? ⟨w.heap.size, 6, none⟩ = some (.string x.digest) ∧ w.heap.size < W.heap.size :=
  ⟨(hW.cell (p := ⟨w.heap.size, 0, none⟩) (by simp)).trans (by simp), (hW.cell (p := ⟨w.heap.size, 1, none⟩) (by simp)).trans (by simp), (hW.cell (p := ⟨w.heap.size, 2, none⟩) (by simp)).trans (by simp), (hW.cell (p := ⟨w.heap.size, 3, none⟩) (by simp)).trans (by simp), (hW.cell (p := ⟨w.heap.size, 4, none⟩) (by simp)).trans (by simp), (hW.cell (p := ⟨w.heap.size, 5, none⟩) (by simp)).trans (by simp), (hW.cell (p := ⟨w.heap.size, 6, none⟩) (by simp)).trans (by simp), by have := hW.size; simp at this; omega⟩
def prvN (l : List Item) : Nat → Option Int
  | 0 => none
  | k + 1 => l[k]?.map Item.number
def filM (fs : List Int) : Int → Option Bool := fun n => if n ∈ fs then some true else none
theorem filM_nil : filM [] = fun _ => none := by funext n; simp [filM]
theorem filM_add (fs : List Int) (n : Int) : upd (filM fs) n true = filM (fs ++ [n]) := by
  funext m
  unfold upd filM
  by_cases h : m = n
  · simp [h]
  · simp [h]
theorem intKindA : KeyKind Tryz.prog 3 (fun n : Int => Value.int .i64 n) := int_kind Tryz.underlying3
theorem zeroBoolA (w : World) : (zeroValue 4).run Tryz.prog w = .ok (.bool false) w := by kernel_rfl
theorem chkG_cons (i : Nat) (q : Option Int) (fs : List Int) (x : Item) (r : List Item) : chkG i q fs (x :: r) = if itemE x ≠ 0 then ((i : Int), itemE x) else if (q.any fun n => decide (x.number ≤ n)) = true then ((i : Int), 5) else if x.file ∈ fs then ((i : Int), 6) else chkG (i + 1) (some x.number) (fs ++ [x.file]) r := by rw [chkG]
abbrev chkP (l : TL) : Value := .tuple #[.int .i64 (chkF l).1, .int .i64 (chkF l).2]
theorem ret_chk {l : TL} {a b : Int} (h : chkF l = (a, b)) : Ending.returned (.tuple #[.int .i64 a, .int .i64 b]) = .returned (chkP l) := by
  show _ = Ending.returned (.tuple #[.int .i64 (chkF l).1, .int .i64 (chkF l).2])
  rw [h]
set_option maxRecDepth 100000 in
set_option maxHeartbeats 8000000 in
theorem check_c (l : TL) (v : Value) (w : World) (B : Nat) (hB : B ≤ w.heap.size) (h : TLRep w B l v) (hV : VarOk w) :
    Calls Tryz.prog 21 #[tlV l v] w fun e w' => e = .returned (chkP l) ∧ Below w.heap.size w w' := by
  have b0 : Below w.heap.size w (w.alloc (tlC l v)) := (Below.refl _ _).alloc (Nat.le_refl _) _
  have hb0 : Below (w.heap.size + 1) (w.alloc (tlC l v)) (w.alloc (tlC l v)) := Below.refl _ _
  have KC := Lib.hid (fun (W : World) (hW : Below (w.heap.size + 1) (w.alloc (tlC l v)) W) => tlW_at hW)
  obtain ⟨A, c, rfl, hc1, hc2, -⟩ := id h
  have HE := Lib.hid (show chkF l = if headB l = false then (-1, 2) else if l.items = [] then (-1, 9) else if 128 < l.items.length then (-1, 8) else chkG 0 none [] l.items from rfl)
  have HH := Lib.hid (show headB l = (inB l.id 1 1073741824 && inB l.office 1 1073741824 && inB l.day 0 1048575) from rfl)
  cases h0 : inB l.id 1 1073741824
  · have HX := Lib.hid (show chkF l = (-1, 2) by rw [HE.out, if_pos (by rw [HH.out]; simp [h0])])
    clear HE HH
    go_enter Tryz.func21, Tryz.ntmps21
    go_wp2_with fail
    refine (within_c l.id 1 1073741824 _).mono ?_
    rintro e w1 ⟨rfl, rfl⟩
    rw [h0]
    go_wp2
    go_ret2
    exact ⟨ret_chk HX.out, b0⟩
  · skip
    cases h1 : inB l.office 1 1073741824
    · have HX := Lib.hid (show chkF l = (-1, 2) by rw [HE.out, if_pos (by rw [HH.out]; simp [h0, h1])])
      clear HE HH
      go_enter Tryz.func21, Tryz.ntmps21
      go_wp2_with fail
      refine (within_c l.id 1 1073741824 _).mono ?_
      rintro e w1 ⟨rfl, rfl⟩
      rw [h0]
      go_wp2_with fail
      refine (within_c l.office 1 1073741824 _).mono ?_
      rintro e w2 ⟨rfl, rfl⟩
      rw [h1]
      go_wp2
      go_ret2
      exact ⟨ret_chk HX.out, b0⟩
    · skip
      cases h2 : inB l.day 0 1048575
      · have HX := Lib.hid (show chkF l = (-1, 2) by rw [HE.out, if_pos (by rw [HH.out]; simp [h0, h1, h2])])
        clear HE HH
        go_enter Tryz.func21, Tryz.ntmps21
        go_wp2_with fail
        refine (within_c l.id 1 1073741824 _).mono ?_
        rintro e w1 ⟨rfl, rfl⟩
        rw [h0]
        go_wp2_with fail
        refine (within_c l.office 1 1073741824 _).mono ?_
        rintro e w2 ⟨rfl, rfl⟩
        rw [h1]
        go_wp2_with fail
        refine (within_c l.day 0 1048575 _).mono ?_
        rintro e w3 ⟨rfl, rfl⟩
        rw [h2]
        go_wp2
        go_ret2
        exact ⟨ret_chk HX.out, b0⟩
      · skip
        have HD := Lib.hid (show headB l = true by rw [HH.out]; simp [h0, h1, h2])
        rw [if_neg (by rw [HD.out]; decide)] at HE
        by_cases hn : l.items = []
        · have HX := Lib.hid (show chkF l = (-1, 9) by rw [HE.out, if_pos hn])
          have hl0 : ((l.items.length : Int) == 0) = true := by rw [hn]; rfl
          clear HE HH HD hn
          go_enter Tryz.func21, Tryz.ntmps21
          go_wp2_with fail
          refine (within_c l.id 1 1073741824 _).mono ?_
          rintro e w1 ⟨rfl, rfl⟩
          rw [h0]
          go_wp2_with fail
          refine (within_c l.office 1 1073741824 _).mono ?_
          rintro e w2 ⟨rfl, rfl⟩
          rw [h1]
          go_wp2_with fail
          refine (within_c l.day 0 1048575 _).mono ?_
          rintro e w3 ⟨rfl, rfl⟩
          rw [h2]
          go_wp2
          go_ret2
          exact ⟨ret_chk HX.out, b0⟩
        · have hl0 : ((l.items.length : Int) == 0) = false := by
            have := List.length_pos_iff.2 hn
            simp; omega
          rw [if_neg hn] at HE
          clear hn
          by_cases hbig : 128 < l.items.length
          · have HX := Lib.hid (show chkF l = (-1, 8) by rw [HE.out, if_pos hbig])
            have hg : (128 : Int) < l.items.length := by omega
            clear HE HH HD hbig
            go_enter Tryz.func21, Tryz.ntmps21
            go_wp2_with fail
            refine (within_c l.id 1 1073741824 _).mono ?_
            rintro e w1 ⟨rfl, rfl⟩
            rw [h0]
            go_wp2_with fail
            refine (within_c l.office 1 1073741824 _).mono ?_
            rintro e w2 ⟨rfl, rfl⟩
            rw [h1]
            go_wp2_with fail
            refine (within_c l.day 0 1048575 _).mono ?_
            rintro e w3 ⟨rfl, rfl⟩
            rw [h2]
            go_wp2
            go_ret2
            exact ⟨ret_chk HX.out, b0⟩
          · have hg : ¬ (128 : Int) < l.items.length := by omega
            rw [if_neg hbig] at HE
            have H0 := Lib.hid (show chkF l = chkG 0 (prvN l.items 0) ((l.items.take 0).map Item.file) (l.items.drop 0) from HE.out)
            clear HE HH HD
            have hmm := @run_makeMap Tryz.prog
            go_enter Tryz.func21, Tryz.ntmps21
            go_wp2_with fail
            refine (within_c l.id 1 1073741824 _).mono ?_
            rintro e w1 ⟨rfl, rfl⟩
            rw [h0]
            go_wp2_with fail
            refine (within_c l.office 1 1073741824 _).mono ?_
            rintro e w2 ⟨rfl, rfl⟩
            rw [h1]
            go_wp2_with fail
            refine (within_c l.day 0 1048575 _).mono ?_
            rintro e w3 ⟨rfl, rfl⟩
            rw [h2]
            go_wp2
            clear hmm
            have hM0 : MapF ((w.alloc (tlC l (.slice A l.items.length c))).alloc (.map #[] 0)) (w.heap.size + 1) (fun n : Int => Value.int .i64 n) Value.bool (filM []) := by
              rw [filM_nil]
              exact MapF.new (w.alloc (tlC l (.slice A l.items.length c))) _ _ (by simp)
            have HM0 := Lib.hid hM0
            clear hM0
            go_loopw [39] (fun i wr => ∃ k : Nat, k ≤ l.items.length ∧ i = .int .i64 k ∧ Hid (chkF l = chkG k (prvN l.items k) ((l.items.take k).map Item.file) (l.items.drop k)) ∧ Hid (MapF wr (w.heap.size + 1) (fun n : Int => Value.int .i64 n) Value.bool (filM ((l.items.take k).map Item.file))) ∧ Below (w.heap.size + 1) (w.alloc (tlC l (.slice A l.items.length c))) wr) (fun i _ => l.items.length - (intOf i).toNat)
            case atStart => exact ⟨0, Nat.zero_le _, rfl, H0, HM0, hb0.alloc (by simp) _⟩
            case round =>
              clear H0 HM0
              obtain ⟨k, hk, rfl, HS, HM, hb⟩ := hrel
              have bW := b0.trans (hb.mono (Nat.le_succ _))
              obtain ⟨z0, z1, z2, z3, zl⟩ := KC.out _ hb
              have hbs := bW.size
              by_cases hlt : k < l.items.length
              · obtain ⟨x, hx⟩ := get_at l.items hlt
                have HD := Lib.hid (drop_at hx)
                have HF := Lib.hid (show (l.items.take (k + 1)).map Item.file = (l.items.take k).map Item.file ++ [x.file] by rw [take_at hx, List.map_append]; rfl)
                have HP1 := Lib.hid (show prvN l.items (k + 1) = some x.number by show (l.items[k]?).map Item.number = some x.number; rw [hx]; rfl)
                obtain ⟨b, off, rfl, hbB, g0, g1, g2, g3, g4, g5, g6⟩ := Items.at_ (h.below itmS (bW.mono hB)) hx
                have hbw : b < wr.heap.size := by have : b < B := hbB; omega
                have hki : (k : Int) < (l.items.length : Int) := by omega
                have b1 : Below wr.heap.size wr (wr.alloc (itmC x)) := (Below.refl _ _).alloc (Nat.le_refl _) _
                have hb1 : Below (wr.heap.size + 1) (wr.alloc (itmC x)) (wr.alloc (itmC x)) := Below.refl _ _
                have HI := Lib.hid (item_c x (wr.alloc (itmC x)) (hV.below (bW.trans (b1.mono hbs))))
                have KX := Lib.hid (fun (W : World) (hW : Below (wr.heap.size + 1) (wr.alloc (itmC x)) W) => itmW_at hW)
                have KL := Lib.hid (fun (W : World) (hW : Below wr.heap.size wr W) => (⟨(hW.cell (p := ⟨w.heap.size, 3, none⟩) zl).trans z3, Nat.lt_of_lt_of_le zl hW.size⟩ : W.cell? ⟨w.heap.size, 3, none⟩ = some (.slice (some ⟨b, off, none⟩) l.items.length c) ∧ w.heap.size < W.heap.size))
                have HQ := Lib.hid (fun (q : Item) (j : Nat) (hq : l.items[j]? = some q) (W : World) (hW : Below w.heap.size w W) => Items.at_ (h.below itmS (hW.mono hB)) hq)
                by_cases he : itemE x = 0
                · have he2 : (itemE x != 0) = false := by simp [he]
                  have HS2 := Lib.hid (show chkF l = if ((prvN l.items k).any fun n => decide (x.number ≤ n)) = true then ((k : Int), 5) else if x.file ∈ (l.items.take k).map Item.file then ((k : Int), 6) else chkG (k + 1) (some x.number) ((l.items.take k).map Item.file ++ [x.file]) (l.items.drop (k + 1)) by rw [HS.out, HD.out, chkG_cons, if_neg (by simp [he])])
                  clear HS HD he
                  have HMX := Lib.hid (fun (W : World) (hW : Below wr.heap.size wr W) => HM.out.below hW HM.out.lt)
                  -- what follows behind the order's question
                  have hcase : (k = 0 ∧ ((prvN l.items k).any fun n => decide (x.number ≤ n)) = false) ∨ ∃ j q, k = j + 1 ∧ l.items[j]? = some q ∧ ((prvN l.items k).any fun n => decide (x.number ≤ n)) = decide (x.number ≤ q.number) := by
                    rcases k with _ | j
                    · exact .inl ⟨rfl, rfl⟩
                    · obtain ⟨q, hq⟩ := get_at l.items (show j < l.items.length by omega)
                      exact .inr ⟨j, q, rfl, hq, by show (((l.items[j]?).map Item.number).any fun n => decide (x.number ≤ n)) = decide (x.number ≤ q.number); rw [hq]; rfl⟩
                  clear HM z0 z1 z2 z3
                  go_wp2_with fail
                  refine HI.out.mono ?_
                  rintro e w1 ⟨rfl, hbi⟩
                  have bX := bnd_call hb1 (by simp) hbi
                  have bR := b1.trans (bX.mono (Nat.le_succ _))
                  have bW1 := bW.trans (bR.mono hbs)
                  obtain ⟨y0, y1, y2, y3, y4, y5, y6, yl⟩ := KX.out _ bX
                  obtain ⟨u3, ul⟩ := KL.out _ bR
                  have HM1 := Lib.hid (HMX.out _ bR)
                  have hbw1 := Nat.lt_of_lt_of_le hbw bR.size
                  clear g0 g1 g2 g3 g4 g5 g6 hbi
                  rcases hcase with ⟨rfl, hpv⟩ | ⟨j, q, rfl, hq, hpv⟩
                  · rw [if_neg (by rw [hpv]; decide)] at HS2
                    have HS3 := Lib.hid (show chkF l = chkG (0 + 1) (some x.number) ((l.items.take 0).map Item.file ++ [x.file]) (l.items.drop (0 + 1)) by rw [HS2.out, if_neg (by simp)])
                    clear HS2 hpv hx
                    go_wp2
                    go_quiet (fail)
                    go_wp2_with (at_lookup; refine stop_intro ?_)
                    refine stop_elim ?_
                    refine wpList_look rfl (.tmp 67) (.tmp 69) 84 false rfl intKindA Tryz.underlying84 (zeroBoolA _) (HM1.out.frame rfl) rfl x.file rfl (.bool false) (by unfold filM; rw [if_neg (by simp)]; rfl) ?_
                    go_wp2_with (at_mapUpdate; refine stop_intro ?_)
                    refine stop_elim ?_
                    refine wpList_mapPut rfl (.tmp 72) (.tmp 74) (.const (.bool true)) 84 (.inl rfl) intKindA Tryz.underlying84 (HM1.out.frame rfl) rfl x.file rfl true rfl ?_
                    intro w3 hm3 hg3
                    have HM4 := Lib.hid (show MapF w3 (w.heap.size + 1) (fun n : Int => Value.int .i64 n) Value.bool (filM ((l.items.take (0 + 1)).map Item.file)) by
                      rw [HF.out, ← filM_add]
                      exact hm3)
                    have HS4 := Lib.hid (show chkF l = chkG (0 + 1) (prvN l.items (0 + 1)) ((l.items.take (0 + 1)).map Item.file) (l.items.drop (0 + 1)) by
                      rw [HP1.out, HF.out]
                      exact HS3.out)
                    have hb3 := ((hb.trans (bR.mono (by have := hb.size; simp at this; omega))).trans (below_of_drewA _ ⟨_, rfl⟩)).grown hg3 (by have := hb.size; have := bR.size; simp at *; omega) (fun k hk => by injection hk; omega)
                    clear hm3 HS3
                    go_wp2
                    go_roundw
                    case rel => exact ⟨0 + 1, by omega, by go_num, HS4, HM4, hb3⟩
                    case measure => simp [intOf]; omega
                  · obtain ⟨_, _, e9, hbB2, p0, -⟩ := HQ.out q j hq _ bW1
                    cases e9
                    have hz1 : (0 : Int) < (j : Int) + 1 := by omega
                    have hz3 : (j : Int) < (l.items.length : Int) := by omega
                    have hz4 : (0 : Int) ≤ (j : Int) := by omega
                    have hz5 : IntKind.i64.wrap (j : Int) = (j : Int) := IntWalk.i64_in _ (by omega)
                    have hz6 : IntKind.i64.wrap ((j : Int) + 1 - 1) = (j : Int) := by rw [IntWalk.i64_in _ (by omega)]; omega
                    clear hx hq
                    by_cases hle : x.number ≤ q.number
                    · have HX := Lib.hid (show chkF l = (((j + 1 : Nat) : Int), 5) by rw [HS2.out, if_pos (by rw [hpv]; simpa using hle)])
                      have hd : decide (x.number ≤ q.number) = true := by simpa using hle
                      clear HS2 hpv hle
                      go_wp2
                      go_quiet (fail)
                      go_wp2
                      go_ret2
                      exact ⟨ret_chk HX.out, bW1.trans (below_of_drewA _ ⟨_, rfl⟩)⟩
                    · rw [if_neg (by rw [hpv]; simpa using hle)] at HS2
                      have hd : decide (x.number ≤ q.number) = false := by simpa using hle
                      clear hpv hle
                      by_cases hin : x.file ∈ (l.items.take (j + 1)).map Item.file
                      · have HX := Lib.hid (show chkF l = (((j + 1 : Nat) : Int), 6) by rw [HS2.out, if_pos hin])
                        clear HS2
                        go_wp2
                        go_quiet (fail)
                        go_wp2_with (at_lookup; refine stop_intro ?_)
                        refine stop_elim ?_
                        refine wpList_look rfl (.tmp 67) (.tmp 69) 84 false rfl intKindA Tryz.underlying84 (zeroBoolA _) (HM1.out.frame rfl) rfl x.file rfl (.bool true) (by unfold filM; rw [if_pos hin]; rfl) ?_
                        go_wp2
                        go_ret2
                        exact ⟨ret_chk HX.out, bW1.trans (below_of_drewA _ ⟨_, rfl⟩)⟩
                      · have HS3 := Lib.hid (show chkF l = chkG (j + 1 + 1) (some x.number) ((l.items.take (j + 1)).map Item.file ++ [x.file]) (l.items.drop (j + 1 + 1)) by rw [HS2.out, if_neg hin])
                        clear HS2
                        go_wp2
                        go_quiet (fail)
                        go_wp2_with (at_lookup; refine stop_intro ?_)
                        refine stop_elim ?_
                        refine wpList_look rfl (.tmp 67) (.tmp 69) 84 false rfl intKindA Tryz.underlying84 (zeroBoolA _) (HM1.out.frame rfl) rfl x.file rfl (.bool false) (by unfold filM; rw [if_neg hin]; rfl) ?_
                        go_wp2_with (at_mapUpdate; refine stop_intro ?_)
                        refine stop_elim ?_
                        refine wpList_mapPut rfl (.tmp 72) (.tmp 74) (.const (.bool true)) 84 (.inl rfl) intKindA Tryz.underlying84 (HM1.out.frame rfl) rfl x.file rfl true rfl ?_
                        intro w3 hm3 hg3
                        have HM4 := Lib.hid (show MapF w3 (w.heap.size + 1) (fun n : Int => Value.int .i64 n) Value.bool (filM ((l.items.take (j + 1 + 1)).map Item.file)) by
                          rw [HF.out, ← filM_add]
                          exact hm3)
                        have HS4 := Lib.hid (show chkF l = chkG (j + 1 + 1) (prvN l.items (j + 1 + 1)) ((l.items.take (j + 1 + 1)).map Item.file) (l.items.drop (j + 1 + 1)) by
                          rw [HP1.out, HF.out]
                          exact HS3.out)
                        have hb3 := ((hb.trans (bR.mono (by have := hb.size; simp at this; omega))).trans (below_of_drewA _ ⟨_, rfl⟩)).grown hg3 (by have := hb.size; have := bR.size; simp at *; omega) (fun k hk => by injection hk; omega)
                        clear hm3 HS3
                        go_wp2
                        go_roundw
                        case rel => exact ⟨j + 1 + 1, by omega, by go_num, HS4, HM4, hb3⟩
                        case measure => simp [intOf]; omega
                · have HX := Lib.hid (show chkF l = ((k : Int), itemE x) by rw [HS.out, HD.out, chkG_cons, if_pos he])
                  have he2 : (itemE x != 0) = true := by simpa using he
                  clear HS HD he
                  go_wp2_with fail
                  refine HI.out.mono ?_
                  rintro e w1 ⟨rfl, hbi⟩
                  go_wp2
                  go_ret2
                  exact ⟨ret_chk HX.out, bW.trans ((b1.trans (hbi.mono (by simp))).mono hbs)⟩
              · have HX := Lib.hid (show chkF l = (-1, 0) by rw [HS.out, List.drop_of_length_le (by omega)]; rfl)
                have hki : ¬ (k : Int) < (l.items.length : Int) := by omega
                clear HS
                go_wp2
                go_ret2
                exact ⟨ret_chk HX.out, bW⟩
end Go.Proofs.YtenaifmkejmdaaaGreatDoor
