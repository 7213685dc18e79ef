/- The program: Find, Prefix. -/
import Derived.Test.YtpfngehledgkiaaGreatBtw
import Derived.Test.YtpfngehledgkiaaGreatPut
namespace Go.Proofs.YtpfngehledgkiaaGreat
open Go.RowKit

theorem pfxB_big {h s : ByteArray} (hs : s.size < h.size) : pfxB h s = false := by
  cases e : pfxB h s
  · rfl
  · have := List.IsPrefix.length_le (List.isPrefixOf_iff_prefix.1 e)
    rw [Array.length_toList, Array.length_toList] at this
    have h1 : h.data.size = h.size := rfl
    have h2 : s.data.size = s.size := rfl
    omega
theorem pfxB_is {h s : ByteArray} : pfxB h s = decide (s.extract 0 h.size = h) := by
  rw [Bool.eq_iff_iff, decide_eq_true_iff]
  unfold pfxB
  rw [List.isPrefixOf_iff_prefix]
  have e1 : (s.extract 0 h.size).data.toList = s.data.toList.take h.size := by
    rw [ByteArray.data_extract, Array.toList_extract]
    simp
  constructor
  · intro hp
    obtain ⟨t, ht⟩ := hp
    apply ByteArray.ext
    apply Array.toList_inj.1
    rw [e1, ← ht, List.take_append_of_le_length (by rw [Array.length_toList]; exact Nat.le_refl _), List.take_of_length_le (by rw [Array.length_toList]; exact Nat.le_refl _)]
  · intro e
    rw [← e, e1]
    exact List.take_prefix _ _
theorem hasPrefix_c (s h : ByteArray) (w : World) : Calls Tryz.prog 34 #[.string s, .string h] w fun e w' => e = .returned (.bool (pfxB h s)) ∧ w = w' := by
  have HL : Hid (Calls Tryz.prog 83 #[.string s, .string h] w fun e w' => e = .returned (.bool (pfxB h s)) ∧ w = w') := Lib.hid (by
    by_cases hlt : s.size < h.size
    · have HE := Lib.hid (pfxB_big hlt)
      have hd : ¬ (h.size : Int) ≤ (s.size : Int) := by omega
      go_enter Tryz.func83, Tryz.ntmps83
      go_wp2
      go_ret
      exact ⟨ret_bool HE.out.symm, rfl⟩
    · have HE := Lib.hid (pfxB_is (h := h) (s := s))
      have hd : (h.size : Int) ≤ (s.size : Int) := by omega
      go_enter Tryz.func83, Tryz.ntmps83
      go_wp2
      go_ret
      refine ⟨ret_bool ?_, rfl⟩
      rw [HE.out]
      first | rfl | (rw [← str_eq]; done) | (rw [str_eq]; done))
  go_enter Tryz.func34, Tryz.ntmps34
  go_wp2_with fail
  refine HL.out.mono ?_
  rintro e w1 ⟨rfl, rfl⟩
  go_wp2
  go_ret
  exact ⟨rfl, rfl⟩
theorem find1_less_c (x word : ByteArray) (g : Nat) (w : World) (h : w.cell? ⟨g, 0, none⟩ = some (.string word)) : Calls Tryz.prog 77 #[.string x, .pointer (some ⟨g, 0, none⟩)] w fun e w' => e = .returned (.bool (lessB x word)) ∧ w = w' := by
  have HE := Lib.hid (show lessB x word = Op.bytesLess x.toList word.toList from rfl)
  have hl := World.block_lt_of_cell? w ⟨g, 0, none⟩ h
  go_enter Tryz.func77, Tryz.ntmps77
  go_wp2
  go_ret
  exact ⟨ret_bool HE.out.symm, rfl⟩
theorem find2_other_c (x word : ByteArray) (g : Nat) (w : World) (h : w.cell? ⟨g, 0, none⟩ = some (.string word)) : Calls Tryz.prog 78 #[.string x, .pointer (some ⟨g, 0, none⟩)] w fun e w' => e = .returned (.bool (!decide (x = word))) ∧ w = w' := by
  have HE := Lib.hid (show (!decide (x = word)) = !(x.toList == word.toList) by rw [str_eq])
  have hl := World.block_lt_of_cell? w ⟨g, 0, none⟩ h
  go_enter Tryz.func78, Tryz.ntmps78
  go_wp2
  go_ret
  exact ⟨ret_bool HE.out.symm, rfl⟩
theorem prefix1_less_c (x word : ByteArray) (g : Nat) (w : World) (h : w.cell? ⟨g, 0, none⟩ = some (.string word)) : Calls Tryz.prog 79 #[.string x, .pointer (some ⟨g, 0, none⟩)] w fun e w' => e = .returned (.bool (lessB x word)) ∧ w = w' := by
  have HE := Lib.hid (show lessB x word = Op.bytesLess x.toList word.toList from rfl)
  have hl := World.block_lt_of_cell? w ⟨g, 0, none⟩ h
  go_enter Tryz.func79, Tryz.ntmps79
  go_wp2
  go_ret
  exact ⟨ret_bool HE.out.symm, rfl⟩
theorem prefix2_other_c (x word : ByteArray) (g : Nat) (w : World) (h : w.cell? ⟨g, 0, none⟩ = some (.string word)) : Calls Tryz.prog 80 #[.string x, .pointer (some ⟨g, 0, none⟩)] w fun e w' => e = .returned (.bool (!pfxB word x)) ∧ w = w' := by
  have HP := Lib.hid (hasPrefix_c x word w)
  have hl := World.block_lt_of_cell? w ⟨g, 0, none⟩ h
  go_enter Tryz.func80, Tryz.ntmps80
  go_wp2_with fail
  refine HP.out.mono ?_
  rintro e w1 ⟨rfl, rfl⟩
  go_wp2
  go_ret
  exact ⟨rfl, rfl⟩
/-- what Find and Prefix return -/
def findF (l : List Post) (w : ByteArray) : Int × Nat := if chkL l ≠ 0 then (0, 0) else rngF (fun x => decide (x.word = w)) l
def prefF_ (l : List Post) (w : ByteArray) : Int × Nat := if chkL l ≠ 0 then (0, 0) else rngF (fun x => pfxB w x.word) l
theorem betF_find (l : List Post) (w : ByteArray) : betF (fun x => lessB x w) (fun x => !decide (x = w)) l = findF l w := by
  unfold betF findF
  split
  · rfl
  · rename_i h
    have h' : chkL l = 0 := by simpa using h
    have e : (fun x => !decide (x = w)) = (fun x : ByteArray => decide (x ≠ w)) := by funext x; simp
    rw [e, find_eq (strict_sorted (chkL_zero h').2.2)]
theorem betF_prefix (l : List Post) (w : ByteArray) : betF (fun x => lessB x w) (fun x => !pfxB w x) l = prefF_ l w := by
  unfold betF prefF_
  split
  · rfl
  · rename_i h
    have h' : chkL l = 0 := by simpa using h
    rw [prefix_eq (strict_sorted (chkL_zero h').2.2)]
theorem less_mono (w : ByteArray) (x y : Post) (h : ple x y) (h1 : lessB x.word w = false) : lessB y.word w = false := less_le (ple_word h) h1
theorem iFind_c (l : List Post) (v : Value) (word : ByteArray) (w : World) (B : Nat) (hB : B ≤ w.heap.size) (h : Posts w B l v) (hw : ∀ p ∈ l, p.word.size ≤ 1000000) :
    Calls Tryz.prog 29 #[v, .string word] w fun e w' => e = .returned (.tuple #[.int .i64 (findF l word).1, .int .i64 ((findF l word).2 : Nat)]) ∧ Below w.heap.size w w' := by
  have b1 : Below w.heap.size w (w.alloc (.cells #[.string word] 9)) := (Below.refl _ _).alloc (Nat.le_refl _) _
  have HB := Lib.hid (between_c 77 78 (.pointer (some ⟨w.heap.size, 0, none⟩)) (fun x => lessB x word) (fun x => !decide (x = word)) l v (w.alloc (.cells #[.string word] 9)) B (Nat.le_trans hB b1.size) (h.below pstS (b1.mono hB)) hw (fun _ _ => by kernel_rfl) (fun _ _ => by kernel_rfl)
    (fun W x hW => find1_less_c x word w.heap.size W ((hW.cell (p := ⟨w.heap.size, 0, none⟩) (by simp)).trans (by simp)))
    (fun W x hW => find2_other_c x word w.heap.size W ((hW.cell (p := ⟨w.heap.size, 0, none⟩) (by simp)).trans (by simp)))
    (less_mono word))
  rw [betF_find] at HB
  obtain ⟨A, c, rfl, -⟩ := id h
  go_enter Tryz.func29, Tryz.ntmps29
  go_wp2_with fail
  refine HB.out.mono ?_
  rintro e w1 ⟨rfl, hb1⟩
  go_wp2
  go_ret2
  exact ⟨rfl, b1.trans (hb1.mono (by simp))⟩
theorem iPrefix_c (l : List Post) (v : Value) (word : ByteArray) (w : World) (B : Nat) (hB : B ≤ w.heap.size) (h : Posts w B l v) (hw : ∀ p ∈ l, p.word.size ≤ 1000000) :
    Calls Tryz.prog 30 #[v, .string word] w fun e w' => e = .returned (.tuple #[.int .i64 (prefF_ l word).1, .int .i64 ((prefF_ l word).2 : Nat)]) ∧ Below w.heap.size w w' := by
  have b1 : Below w.heap.size w (w.alloc (.cells #[.string word] 9)) := (Below.refl _ _).alloc (Nat.le_refl _) _
  have HB := Lib.hid (between_c 79 80 (.pointer (some ⟨w.heap.size, 0, none⟩)) (fun x => lessB x word) (fun x => !pfxB word x) l v (w.alloc (.cells #[.string word] 9)) B (Nat.le_trans hB b1.size) (h.below pstS (b1.mono hB)) hw (fun _ _ => by kernel_rfl) (fun _ _ => by kernel_rfl)
    (fun W x hW => prefix1_less_c x word w.heap.size W ((hW.cell (p := ⟨w.heap.size, 0, none⟩) (by simp)).trans (by simp)))
    (fun W x hW => prefix2_other_c x word w.heap.size W ((hW.cell (p := ⟨w.heap.size, 0, none⟩) (by simp)).trans (by simp)))
    (less_mono word))
  rw [betF_prefix] at HB
  obtain ⟨A, c, rfl, -⟩ := id h
  go_enter Tryz.func30, Tryz.ntmps30
  go_wp2_with fail
  refine HB.out.mono ?_
  rintro e w1 ⟨rfl, hb1⟩
  go_wp2
  go_ret2
  exact ⟨rfl, b1.trans (hb1.mono (by simp))⟩
set_option maxRecDepth 100000 in
set_option maxHeartbeats 4000000 in
theorem iWords_c (l : List Post) (v : Value) (w : World) (B : Nat) (hB : B ≤ w.heap.size) (h : Posts w B l v) (hw : ∀ p ∈ l, p.word.size ≤ 1000000) :
    Calls Tryz.prog 31 #[v] w fun e w' => ∃ v', e = .returned v' ∧ OwnRep 1 (flat strEnc) 9 w.heap.size w' (if chkL l = 0 then wrdL l else []) v' ∧ Below w.heap.size w w' := by
  obtain ⟨A, c, rfl, hc1, hc2, _⟩ := id h
  have HCK := Lib.hid (icheck_c l (.slice A l.length c) w B hB h hw)
  by_cases hck : chkL l = 0
  · have hlen := (chkL_zero hck).1
    rw [hck] at HCK
    rw [if_pos hck]
    have HX := Lib.hid (fun (i : Nat) (x : Post) (hx : l[i]? = some x) (W : World) (hW : Below w.heap.size w W) => Posts.at_ (h.below pstS (hW.mono hB)) hx)
    have H0 := Lib.hid (show wrdL l = [] ++ wrdG ([] : List ByteArray).getLast? (l.drop 0) from rfl)
    clear hck h
    go_enter Tryz.func31, Tryz.ntmps31
    go_wp2_with fail
    refine HCK.out.mono ?_
    rintro e w1 ⟨rfl, hb1⟩
    go_wp2
    go_loopw [3, 12] (fun s i wr => ∃ (k : Nat) (o : List ByteArray), k ≤ l.length ∧ i = .int .i64 k ∧ Hid (wrdL l = o ++ wrdG o.getLast? (l.drop k)) ∧ OwnRep 1 (flat strEnc) 9 w.heap.size wr o s ∧ o.length ≤ k ∧ Below w.heap.size w wr) (fun _ i _ => l.length - (intOf i).toNat)
    case atStart => exact ⟨0, [], Nat.zero_le _, rfl, H0, OwnRep.nil_, Nat.le_refl _, hb1⟩
    case round =>
      clear H0 hb1
      obtain ⟨k, o, hk, rfl, hh, ho, hol, hb⟩ := hrel
      have hbs := hb.size
      by_cases hlt : k < l.length
      · obtain ⟨x, hx⟩ := get_at l hlt
        obtain ⟨b, off, rfl, hbB, g0, g1, g2, g3⟩ := HX.out _ _ hx _ hb
        have hbw : b < wr.heap.size := by have : b < B := hbB; omega
        have hki : (k : Int) < (l.length : Int) := by omega
        have hd := drop_at hx
        have hbx : Below wr.heap.size wr (wr.alloc (pstC x)) := (Below.refl _ _).alloc (Nat.le_refl _) _
        have hox := ho.below strS hbx
        have HNO := Lib.hid (fun (hne : o.getLast? ≠ some x.word) => (by
          rw [hh.out, hd, wrdG, if_neg hne]
          simp : wrdL l = (o ++ [x.word]) ++ wrdG (o ++ [x.word]).getLast? (l.drop (k + 1))))
        have HYE := Lib.hid (fun (he : o.getLast? = some x.word) => (by
          rw [hh.out, hd, wrdG, if_pos he] : wrdL l = o ++ wrdG o.getLast? (l.drop (k + 1))))
        clear hh hd hx
        rcases ho.cases_ with ⟨rfl, rfl⟩ | ⟨g, cap, rfl, hgb, hgl, hcp1, hcp2⟩
        · have HN := Lib.hid (HNO.out (by simp))
          clear HNO HYE
          go_wp2
          go_quiet (fail)
          go_wp2_with (at_builtin; refine stop_intro ?_)
          refine stop_elim ?_
          have hbq : Below wr.heap.size wr (((wr.alloc (pstC x)).drewN nq).alloc (.cells #[.string x.word] 9)) := (below_drewN hbx nq).alloc (by show wr.heap.size ≤ (World.alloc _ _).heap.size; simp) _
          refine wpList_append_rep rfl strS strE_ w.heap.size (.tmp 30) (.tmp 33) rfl rfl (ho.below strS hbq) rfl (ys := [x.word]) (SlRep.one_new strS (w := (wr.alloc (pstC x)).drewN nq) (F := fun _ => False) (x := x.word) (cs := strEnc x.word) (by show (World.alloc _ _).heap.size = _; simp) rfl (fun _ hb => hb.elim)) ?_ (by simp) (by decide) (Nat.le_trans hbs hbq.size) ?_
          · intro b' hb'
            rcases hb' with hb' | rfl
            · exact hb'.elim
            · exact ⟨by show _ < (World.alloc _ _).heap.size; simp, fun e => by have := (ho.own_lt _ e).2; have : wr.heap.size < (World.drewN (wr.alloc (pstC x)) nq).heap.size := (by show wr.heap.size < (World.alloc _ _).heap.size; simp); omega⟩
          intro v6 w6 hown6 hg6 hat6
          have hb6 : Below w.heap.size w w6 := (hb.trans (hbq.mono hbs)).grown hg6 (Nat.le_trans hbs hbq.size) (fun j hj => (ho.own_lt j hj).1)
          obtain ⟨A6, n6, c6, rfl, hn6⟩ := own_form strS hown6
          obtain ⟨on, hon⟩ : ∃ on, [] ++ [x.word] = on := ⟨_, rfl⟩
          have hl6 : on.length ≤ k + 1 := by rw [← hon]; simp
          rw [hon] at hown6 HN
          clear hg6 hat6 hon ho
          go_wp2
          go_roundw
          case rel => exact ⟨k + 1, on, by omega, by go_num, HN, hown6, hl6, hb6⟩
          case measure => simp [intOf]; omega
        · have hpos : o.length ≠ 0 ∨ o = [] := by
            cases o with
            | nil => exact .inr rfl
            | cons a r => exact .inl (by simp)
          rcases hpos with hpos | hnil
          · obtain ⟨y, hy⟩ := get_at o (show o.length - 1 < o.length by omega)
            have hlast : o.getLast? = some y := by rw [List.getLast?_eq_getElem?]; exact hy
            obtain ⟨b9, off9, e9, hb9, q0⟩ := Strs.at_ (ho.toSl strS) hy
            injection e9 with e9
            injection e9 with e10 e11
            subst e10 e11
            rw [hlast] at HNO HYE
            have q1 : (wr.alloc (pstC x)).cell? ⟨g, 0 + (o.length - 1), none⟩ = some (.string y) := (hbx.cell (p := ⟨g, 0 + (o.length - 1), none⟩) hgl).trans q0
            rw [Nat.zero_add] at q0 q1
            have hz1 : ((o.length : Int) == 0) = false := by rw [beq_eq_false_iff_ne]; omega
            have hw1 : IntKind.i64.wrap ((o.length : Int) - 1) = (((o.length - 1 : Nat)) : Int) := by rw [IntWalk.i64_in _ (by omega)]; omega
            have hw2 : (((o.length - 1 : Nat)) : Int) < (o.length : Int) := by omega
            obtain ⟨m, hm⟩ : ∃ m, o.length - 1 = m := ⟨_, rfl⟩
            rw [hm] at q0 q1 hw1 hw2
            have hol' := hol
            generalize hon0 : o.length = no at *
            by_cases hyx : y = x.word
            · have HN := Lib.hid (HYE.out (by rw [hyx]))
              have hne : (y.toList == x.word.toList) = true := by rw [str_eq, decide_eq_true hyx]
              go_wp2
              go_quiet (fail)
              go_wp2
              go_roundw
              case rel => exact ⟨k + 1, o, by omega, by go_num, (by rw [hlast]; exact HN), (by rw [← hon0] at *; exact ho.below strS ((below_drewN hbx nq))), by omega, hb.trans ((below_drewN hbx nq).mono hbs)⟩
              case measure => simp [intOf]; omega
            · have HN := Lib.hid (HNO.out (by simpa using hyx))
              have hne : (y.toList == x.word.toList) = false := by rw [str_eq, decide_eq_false hyx]
              go_wp2
              go_quiet (fail)
              go_wp2_with (at_builtin; refine stop_intro ?_)
              refine stop_elim ?_
              have hbq : Below wr.heap.size wr (((wr.alloc (pstC x)).drewN nq).alloc (.cells #[.string x.word] 9)) := (below_drewN hbx nq).alloc (by show wr.heap.size ≤ (World.alloc _ _).heap.size; simp) _
              refine wpList_append_rep rfl strS strE_ w.heap.size (.tmp 30) (.tmp 33) rfl rfl (ho.below strS hbq) rfl (ys := [x.word]) (SlRep.one_new strS (w := (wr.alloc (pstC x)).drewN nq) (F := fun _ => False) (x := x.word) (cs := strEnc x.word) (by show (World.alloc _ _).heap.size = _; simp) rfl (fun _ hb => hb.elim)) ?_ (by rw [hon0]; simp; omega) (by decide) (Nat.le_trans hbs hbq.size) ?_
              · intro b' hb'
                rcases hb' with hb' | rfl
                · exact hb'.elim
                · exact ⟨by show _ < (World.alloc _ _).heap.size; simp, fun e => by have := (ho.own_lt _ e).2; have : wr.heap.size < (World.drewN (wr.alloc (pstC x)) nq).heap.size := (by show wr.heap.size < (World.alloc _ _).heap.size; simp); omega⟩
              intro v6 w6 hown6 hg6 hat6
              have hb6 : Below w.heap.size w w6 := (hb.trans (hbq.mono hbs)).grown hg6 (Nat.le_trans hbs hbq.size) (fun j hj => (ho.own_lt j hj).1)
              obtain ⟨A6, n6, c6, rfl, hn6⟩ := own_form strS hown6
              obtain ⟨on, hon⟩ : ∃ on, o ++ [x.word] = on := ⟨_, rfl⟩
              have hl6 : on.length ≤ k + 1 := by rw [← hon, List.length_append, hon0]; simp; omega
              rw [hon] at hown6 HN
              clear hg6 hat6 hon ho
              go_wp2
              go_roundw
              case rel => exact ⟨k + 1, on, by omega, by go_num, HN, hown6, hl6, hb6⟩
              case measure => simp [intOf]; omega
          · subst hnil
            have HN := Lib.hid (HNO.out (by simp))
            clear HNO HYE
            go_wp2
            go_quiet (fail)
            go_wp2_with (at_builtin; refine stop_intro ?_)
            refine stop_elim ?_
            have hbq : Below wr.heap.size wr (((wr.alloc (pstC x)).drewN nq).alloc (.cells #[.string x.word] 9)) := (below_drewN hbx nq).alloc (by show wr.heap.size ≤ (World.alloc _ _).heap.size; simp) _
            refine wpList_append_rep rfl strS strE_ w.heap.size (.tmp 30) (.tmp 33) rfl rfl (ho.below strS hbq) rfl (ys := [x.word]) (SlRep.one_new strS (w := (wr.alloc (pstC x)).drewN nq) (F := fun _ => False) (x := x.word) (cs := strEnc x.word) (by show (World.alloc _ _).heap.size = _; simp) rfl (fun _ hb => hb.elim)) ?_ (by simp) (by decide) (Nat.le_trans hbs hbq.size) ?_
            · intro b' hb'
              rcases hb' with hb' | rfl
              · exact hb'.elim
              · exact ⟨by show _ < (World.alloc _ _).heap.size; simp, fun e => by have := (ho.own_lt _ e).2; have : wr.heap.size < (World.drewN (wr.alloc (pstC x)) nq).heap.size := (by show wr.heap.size < (World.alloc _ _).heap.size; simp); omega⟩
            intro v6 w6 hown6 hg6 hat6
            have hb6 : Below w.heap.size w w6 := (hb.trans (hbq.mono hbs)).grown hg6 (Nat.le_trans hbs hbq.size) (fun j hj => (ho.own_lt j hj).1)
            obtain ⟨A6, n6, c6, rfl, hn6⟩ := own_form strS hown6
            obtain ⟨on, hon⟩ : ∃ on, [] ++ [x.word] = on := ⟨_, rfl⟩
            have hl6 : on.length ≤ k + 1 := by rw [← hon]; simp
            rw [hon] at hown6 HN
            clear hg6 hat6 hon ho
            go_wp2
            go_roundw
            case rel => exact ⟨k + 1, on, by omega, by go_num, HN, hown6, hl6, hb6⟩
            case measure => simp [intOf]; omega
      · have HE := Lib.hid (show wrdL l = o by rw [hh.out, List.drop_of_length_le (by omega)]; simp [wrdG])
        rw [← HE.out] at ho
        obtain ⟨A1, n1, c1, rfl, hn1⟩ := own_form strS ho
        clear hh
        go_wp2
        go_ret
        exact ⟨_, rfl, ho, hb⟩
  · rw [if_neg hck]
    have hn : (chkL l != 0) = true := by simpa using hck
    clear hck
    go_enter Tryz.func31, Tryz.ntmps31
    go_wp2_with fail
    refine HCK.out.mono ?_
    rintro e w1 ⟨rfl, hb1⟩
    go_wp2
    go_ret
    exact ⟨_, rfl, OwnRep.nil_, hb1⟩
end Go.Proofs.YtpfngehledgkiaaGreat
