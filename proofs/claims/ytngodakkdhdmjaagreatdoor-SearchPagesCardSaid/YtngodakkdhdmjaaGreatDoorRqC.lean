/- The reference of chapter 55: Find, Prefix, Words. -/
import Derived.Test.YtngodakkdhdmjaaGreatDoorRqB
import Derived.Test.YtngodakkdhdmjaaGreatDoorPus
namespace Go.Proofs.YtngodakkdhdmjaaGreatDoor
open Go.RowKit

theorem rngG_cons (p : Post → Bool) (i : Nat) (f : Int) (n : Nat) (x : Post) (r : List Post) : rngG p i f n (x :: r) = if p x = true then rngG p (i + 1) (if n = 0 then (i : Int) else f) (n + 1) r else rngG p (i + 1) f n r := rfl
set_option maxRecDepth 100000 in
set_option maxHeartbeats 4000000 in
theorem rfind5_c (l : List Post) (v : Value) (word : ByteArray) (w : World) (B : Nat) (hB : B ≤ w.heap.size) (h : Posts w B l v) (hw : ∀ p ∈ l, p.word.size ≤ 1000000) :
    Calls Tryz.prog 46 #[v, .string word] w fun e w' => e = .returned (.tuple #[.int .i64 (findF l word).1, .int .i64 ((findF l word).2 : Nat)]) ∧ Below w.heap.size w w' := by
  have HC := Lib.hid (rcheck5_c l v w B hB h hw)
  obtain ⟨A, c, rfl, hc1, hc2, _⟩ := id h
  by_cases hck : chkL l = 0
  · rw [hck] at HC
    have HF := Lib.hid (show findF l word = rngG (fun x => decide (x.word = word)) 0 0 0 (l.drop 0) by unfold findF; rw [if_neg (by simp [hck])]; rfl)
    clear hck
    go_enter Tryz.func46, Tryz.ntmps46
    go_wp2_with fail
    refine HC.out.mono ?_
    rintro e w1 ⟨rfl, hb1⟩
    have h1 := (h.below pstS (hb1.mono hB))
    go_wp2
    go_loop [6, 7, 8] (fun sf sn si => ∃ (k n : Nat) (f : Int), k ≤ l.length ∧ n ≤ k ∧ si = .int .i64 k ∧ sn = .int .i64 n ∧ sf = .int .i64 f ∧ Hid (findF l word = rngG (fun x => decide (x.word = word)) k f n (l.drop k))) (fun _ _ si => l.length - (intOf si).toNat)
    case atStart => exact ⟨0, 0, 0, Nat.zero_le _, Nat.le_refl _, rfl, rfl, rfl, HF⟩
    case round =>
      clear HF
      obtain ⟨k, n, f, hk, hnk, rfl, rfl, rfl, HS⟩ := hrel
      by_cases hlt : k < l.length
      · obtain ⟨x, hx⟩ := get_at l hlt
        have HD := Lib.hid (drop_at hx)
        obtain ⟨b, off, rfl, hbB, g0, g1, g2, g3⟩ := Posts.at_ h1 hx
        have hki : (k : Int) < (l.length : Int) := by omega
        by_cases hs : x.word = word
        · have e1 := beq_strT hs
          by_cases hn0 : n = 0
          · subst hn0
            have HN := Lib.hid (show findF l word = rngG (fun x => decide (x.word = word)) (k + 1) (k : Int) 1 (l.drop (k + 1)) by rw [HS.out, HD.out, rngG_cons, if_pos (by simp [hs]), if_pos rfl])
            clear hs HS hx
            go_wp2
            go_round
            case rel => exact ⟨k + 1, 1, (k : Int), by omega, by omega, by go_num, rfl, rfl, HN⟩
            case measure => simp [intOf]; omega
          · have HN := Lib.hid (show findF l word = rngG (fun x => decide (x.word = word)) (k + 1) f (n + 1) (l.drop (k + 1)) by rw [HS.out, HD.out, rngG_cons, if_pos (by simp [hs]), if_neg hn0])
            have hn1 : ((n : Int) == 0) = false := by simpa using hn0
            clear hs HS hx
            go_wp2
            go_round
            case rel => exact ⟨k + 1, n + 1, f, by omega, by omega, by go_num, by go_num, rfl, HN⟩
            case measure => simp [intOf]; omega
        · have e1 := beq_strF hs
          have HN := Lib.hid (show findF l word = rngG (fun x => decide (x.word = word)) (k + 1) f n (l.drop (k + 1)) by rw [HS.out, HD.out, rngG_cons, if_neg (by simp [hs])])
          clear hs HS hx
          go_wp2
          go_round
          case rel => exact ⟨k + 1, n, f, by omega, by omega, by go_num, rfl, rfl, HN⟩
          case measure => simp [intOf]; omega
      · have HE := Lib.hid (show findF l word = (f, n) by rw [HS.out, List.drop_of_length_le (by omega)]; rfl)
        clear HS
        go_wp2
        go_ret2
        exact ⟨by rw [HE.out]; rfl, hb1⟩
  · have HE := Lib.hid (show findF l word = (0, 0) by unfold findF; rw [if_pos hck])
    have hne : (chkL l != 0) = true := by simpa using hck
    clear hck
    go_enter Tryz.func46, Tryz.ntmps46
    go_wp2_with fail
    refine HC.out.mono ?_
    rintro e w1 ⟨rfl, hb1⟩
    go_wp2
    go_ret2
    exact ⟨by rw [HE.out]; rfl, hb1⟩
def prevW (l : List Post) (k : Nat) : Option ByteArray := if k = 0 then none else (l[k - 1]?).map Post.word
set_option maxRecDepth 100000 in
set_option maxHeartbeats 4000000 in
theorem rwords5_c (l : List Post) (v : Value) (w : World) (B : Nat) (hB : B ≤ w.heap.size) (h : Posts w B l v) (hw : ∀ p ∈ l, p.word.size ≤ 1000000) :
    Calls Tryz.prog 45 #[v] w fun e w' => ∃ v', e = .returned v' ∧ OwnRep 1 (flat strEnc) 9 w.heap.size w' (if chkL l = 0 then wrdL l else []) v' ∧ Below w.heap.size w w' := by
  have HC := Lib.hid (rcheck5_c l v w B hB h hw)
  obtain ⟨A, c, rfl, hc1, hc2, _⟩ := id h
  by_cases hck : chkL l = 0
  · have hlen := (chkL_zero hck).1
    rw [hck] at HC
    rw [if_pos hck]
    have HX := Lib.hid (fun (i : Nat) (x : Post) (hx : l[i]? = some x) (W : World) (hW : Below w.heap.size w W) => Posts.at_ (h.below pstS (hW.mono hB)) hx)
    have H0 := Lib.hid (show wrdL l = [] ++ wrdG (prevW l 0) (l.drop 0) from rfl)
    clear hck h
    go_enter Tryz.func45, Tryz.ntmps45
    go_wp2_with fail
    refine HC.out.mono ?_
    rintro e w1 ⟨rfl, hb1⟩
    go_wp2
    go_loopw [3, 4] (fun s i wr => ∃ (k : Nat) (o : List ByteArray), k ≤ l.length ∧ i = .int .i64 k ∧ Hid (wrdL l = o ++ wrdG (prevW l k) (l.drop k)) ∧ OwnRep 1 (flat strEnc) 9 w.heap.size wr o s ∧ o.length ≤ k ∧ Below w.heap.size w wr) (fun _ i _ => l.length - (intOf i).toNat)
    case atStart => exact ⟨0, [], Nat.zero_le _, rfl, H0, OwnRep.nil_, Nat.le_refl _, hb1⟩
    case round =>
      clear H0 hb1
      obtain ⟨k, o, hk, rfl, hh, ho, hol, hb⟩ := hrel
      have hbs := hb.size
      have hro := ho.own_lt
      by_cases hlt : k < l.length
      · obtain ⟨x, hx⟩ := get_at l hlt
        obtain ⟨b, off, rfl, hbB, g0, g1, g2, g3⟩ := HX.out _ _ hx _ hb
        have hbw : b < wr.heap.size := by have : b < B := hbB; omega
        have hki : (k : Int) < (l.length : Int) := by omega
        have hd := drop_at hx
        have hpn : prevW l (k + 1) = some x.word := by unfold prevW; rw [if_neg (Nat.succ_ne_zero k), Nat.add_sub_cancel, hx]; rfl
        obtain ⟨Ao, no, co, rfl, hno⟩ := own_form strS ho
        by_cases hz : k = 0
        · subst hz
          have HN := Lib.hid (show wrdL l = (o ++ [x.word]) ++ wrdG (prevW l (0 + 1)) (l.drop (0 + 1)) by
            rw [hpn, hh.out, hd]
            unfold prevW
            rw [if_pos rfl, wrdG, if_neg (by simp)]
            simp)
          clear hh hd hx hpn
          simp only [Nat.zero_mul, Nat.add_zero] at g0
          go_wp2
          go_quiet (fail)
          go_wp2_with (at_builtin; refine stop_intro ?_)
          refine stop_elim ?_
          have hbq : Below wr.heap.size wr ((wr.drewN nq).alloc (.cells #[.string x.word] 9)) := (below_drewN (Below.refl _ _) nq).alloc (Nat.le_refl _) _
          refine wpList_append_rep rfl strS strE_ w.heap.size (.tmp 30) (.tmp 36) rfl rfl (ho.below strS hbq) rfl (ys := [x.word]) (SlRep.one_new strS (w := wr.drewN nq) (F := fun _ => False) (x := x.word) (cs := strEnc x.word) (g := wr.heap.size) rfl rfl (fun _ hb => hb.elim)) ?_ (by simp only [List.length_cons, List.length_nil]; omega) (by decide) (Nat.le_trans hbs hbq.size) ?_
          · intro b' hb'
            rcases hb' with hb' | rfl
            · exact hb'.elim
            · exact ⟨by show wr.heap.size < (World.alloc _ _).heap.size; rw [World.size_alloc]; exact Nat.lt_succ_self _, fun e => by have := (hro _ e).2; omega⟩
          intro v6 w6 hown6 hg6 hat6
          have hb6 : Below w.heap.size w w6 := (hb.trans (hbq.mono hbs)).grown hg6 (Nat.le_trans hbs hbq.size) (fun j hj => (hro j hj).1)
          obtain ⟨A6, n6, c6, rfl, hn6⟩ := own_form strS hown6
          have hl6 : (o ++ [x.word]).length ≤ 0 + 1 := by rw [List.length_append, List.length_cons, List.length_nil]; omega
          generalize o ++ [x.word] = on at hown6 HN hl6
          clear hg6 hat6 ho
          go_wp2
          go_roundw
          case rel => exact ⟨0 + 1, on, by omega, by go_num, HN, hown6, hl6, hb6⟩
          case measure => simp [intOf]; omega
        · obtain ⟨j, rfl⟩ : ∃ j, k = j + 1 := ⟨k - 1, by omega⟩
          obtain ⟨y, hy⟩ := get_at l (show j < l.length by omega)
          obtain ⟨_, _, e9, hbB2, p0, -, -, -⟩ := HX.out _ _ hy _ hb
          cases e9
          have hpv : prevW l (j + 1) = some y.word := by unfold prevW; rw [if_neg hz, Nat.add_sub_cancel, hy]; rfl
          have hz1 : (((j : Int) + 1) == 0) = false := by rw [beq_eq_false_iff_ne]; omega
          have hz3 : (j : Int) < (l.length : Int) := by omega
          have hz4 : (0 : Int) ≤ (j : Int) := by omega
          have hz6 : IntKind.i64.wrap ((j : Int) + 1 - 1) = (j : Int) := by rw [IntWalk.i64_in _ (by omega)]; omega
          have hz7 : (j : Int) + 1 < (l.length : Int) := by omega
          have hz8 : (0 : Int) ≤ (j : Int) + 1 := by omega
          clear hz
          by_cases hyx : y.word = x.word
          · have HN := Lib.hid (show wrdL l = o ++ wrdG (prevW l (j + 1 + 1)) (l.drop (j + 1 + 1)) by
              rw [hpn, hh.out, hd, hpv, wrdG, if_pos (by rw [hyx]), hyx])
            have e1 := beq_strT hyx
            clear hh hd hx hy hpn hpv hyx
            go_wp2
            go_quiet (fail)
            go_wp2
            go_roundw
            case rel => exact ⟨j + 1 + 1, o, by omega, by go_num, HN, ho.below strS (below_drewN (Below.refl _ _) nq), by omega, hb.trans ((below_drewN (Below.refl _ _) nq).mono hbs)⟩
            case measure => simp [intOf]; omega
          · have HN := Lib.hid (show wrdL l = (o ++ [x.word]) ++ wrdG (prevW l (j + 1 + 1)) (l.drop (j + 1 + 1)) by
              rw [hpn, hh.out, hd, hpv, wrdG, if_neg (by simpa using hyx)]
              simp)
            have e1 := beq_strF hyx
            clear hh hd hx hy hpn hpv hyx
            go_wp2
            go_quiet (fail)
            go_wp2_with (at_builtin; refine stop_intro ?_)
            refine stop_elim ?_
            have hbq : Below wr.heap.size wr ((wr.drewN nq).alloc (.cells #[.string x.word] 9)) := (below_drewN (Below.refl _ _) nq).alloc (Nat.le_refl _) _
            refine wpList_append_rep rfl strS strE_ w.heap.size (.tmp 30) (.tmp 36) rfl rfl (ho.below strS hbq) rfl (ys := [x.word]) (SlRep.one_new strS (w := wr.drewN nq) (F := fun _ => False) (x := x.word) (cs := strEnc x.word) (g := wr.heap.size) rfl rfl (fun _ hb => hb.elim)) ?_ (by simp only [List.length_cons, List.length_nil]; omega) (by decide) (Nat.le_trans hbs hbq.size) ?_
            · intro b' hb'
              rcases hb' with hb' | rfl
              · exact hb'.elim
              · exact ⟨by show wr.heap.size < (World.alloc _ _).heap.size; rw [World.size_alloc]; exact Nat.lt_succ_self _, fun e => by have := (hro _ e).2; omega⟩
            intro v6 w6 hown6 hg6 hat6
            have hb6 : Below w.heap.size w w6 := (hb.trans (hbq.mono hbs)).grown hg6 (Nat.le_trans hbs hbq.size) (fun j hj => (hro j hj).1)
            obtain ⟨A6, n6, c6, rfl, hn6⟩ := own_form strS hown6
            have hl6 : (o ++ [x.word]).length ≤ (j + 1) + 1 := by rw [List.length_append, List.length_cons, List.length_nil]; omega
            generalize o ++ [x.word] = on at hown6 HN hl6
            clear hg6 hat6 ho
            go_wp2
            go_roundw
            case rel => exact ⟨(j + 1) + 1, on, by omega, by go_num, HN, hown6, hl6, hb6⟩
            case measure => simp [intOf]; omega
      · have HE := Lib.hid (show wrdL l = o by rw [hh.out, List.drop_of_length_le (by omega)]; simp [wrdG])
        rw [← HE.out] at ho
        clear hh HE
        obtain ⟨Ao, no, co, rfl, hno⟩ := own_form strS ho
        go_wp2
        go_ret
        exact ⟨_, rfl, ho, hb⟩
  · rw [if_neg hck]
    have hne : (chkL l != 0) = true := by simpa using hck
    clear hck
    go_enter Tryz.func45, Tryz.ntmps45
    go_wp2_with fail
    refine HC.out.mono ?_
    rintro e w1 ⟨rfl, hb1⟩
    go_wp2
    go_ret
    exact ⟨_, rfl, OwnRep.nil_, hb1⟩
end Go.Proofs.YtngodakkdhdmjaaGreatDoor
