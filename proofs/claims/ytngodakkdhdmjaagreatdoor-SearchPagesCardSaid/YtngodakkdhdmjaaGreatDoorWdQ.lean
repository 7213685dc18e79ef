/- The words of a text, as the program reads them. -/
import Derived.Test.YtngodakkdhdmjaaGreatDoorRgs
import Derived.Test.YtngodakkdhdmjaaGreatDoorBas
import Derived.Laws.IdiomStrings
import Derived.Outline
namespace Go.Proofs.YtngodakkdhdmjaaGreatDoor
open Go.RowKit

def u8Enc (x : UInt8) : List Value := [.int .u8 (x.toNat : Int)]
theorem u8S : Shape 1 (flat u8Enc) := flat_shape 1 _ (fun _ => rfl) (fun x u hu => by simp [u8Enc] at hu; subst hu; rfl)
theorem u8E_ : Elem Tryz.prog 141 5 1 1 := by
  obtain ⟨i, h1, h2, h3, h4⟩ := info_parts (P := Tryz.prog) (e := 5) (z := .int .u8 0) (size := 1) (bytes := 1) (by kernel_rfl)
  exact ⟨Tryz.underlying141, ⟨i, _, h1, h2, h3, h4, rfl⟩, by decide⟩
set_option maxRecDepth 100000 in
/-- string(word) -/
theorem str_of_bytes {F : Nat → Prop} {A : Option Addr} {n c : Nat} {l : List UInt8} {w : World} (h : SlRep 1 (flat u8Enc) w F l (.slice A n c)) (hl : l ≠ []) :
    (convert 141 9 (.slice A n c)).run Tryz.prog w = .ok (.string ⟨l.toArray⟩) w := by
  obtain ⟨e1, h1, h2⟩ := h.len_
  obtain ⟨A', c', e, _, _, h3⟩ := h
  injection e with e2 e3 e4
  subst e2 e4 e1
  obtain ⟨x, r, rfl⟩ : ∃ x r, l = x :: r := by
    cases l with
    | nil => exact absurd rfl hl
    | cons x r => exact ⟨x, r, rfl⟩
  obtain ⟨b, off, cs, hA, -, -, -⟩ := h3 0 x rfl
  subst hA
  refine run_convert_bytes_back w _ _ 5 ⟨b, off, none⟩ c (x :: r) Tryz.underlying141 Tryz.underlying5 Tryz.underlying9 ?_
  intro j hj
  obtain ⟨b', off', cs, hA', -, hr, hc⟩ := h3 j _ (List.getElem?_eq_getElem hj)
  injection hA' with hA'
  injection hA' with e5 e6
  subst e5 e6 hr
  have := hc 0 _ rfl
  simp only [Nat.mul_one, Nat.add_zero] at this
  have hadd : (⟨b, off, none⟩ : Addr).add j = ⟨b, off + j, none⟩ := by
    unfold Addr.add
    split
    · rename_i h0; rw [show off + j = off by omega]
    · rfl
  rw [hadd]
  exact this
def plnI (x : Int) : Bool := (decide (97 ≤ x) && decide (x ≤ 122)) || (decide (48 ≤ x) && decide (x ≤ 57))
theorem plain_c (x : Int) (w : World) : Calls Tryz.prog 109 #[.int .u8 x] w fun e w' => e = .returned (.bool (plnI x)) ∧ w = w' := by
  have HE := Lib.hid (show plnI x = ((decide (97 ≤ x) && decide (x ≤ 122)) || (decide (48 ≤ x) && decide (x ≤ 57))) from rfl)
  go_enter Tryz.func109, Tryz.ntmps109
  go_wp2
  all_goals
    go_ret
    refine ⟨ret_bool ?_, rfl⟩
    rw [HE.out]
    clear HE
    rw [Bool.eq_iff_iff]
    simp only [Bool.or_eq_true, Bool.and_eq_true, decide_eq_true_eq, Bool.false_eq_true, false_iff, true_iff]
    omega
theorem plnI_nat (y : UInt8) : plnI (y.toNat : Int) = plnB y := by
  unfold plnI plnB
  rw [Bool.eq_iff_iff]
  simp only [Bool.or_eq_true, Bool.and_eq_true, decide_eq_true_eq]
  omega
theorem low_up {b : UInt8} (h : 65 ≤ b.toNat ∧ b.toNat ≤ 90) : IntKind.u8.wrap ((b.toNat : Int) + 32) = ((lowB b).toNat : Int) := by
  unfold lowB
  rw [if_pos h]
  have e : (b + 32).toNat = b.toNat + 32 := by rw [UInt8.toNat_add]; simp; omega
  rw [e]
  have : IntKind.u8.wrap ((b.toNat : Int) + 32) = (b.toNat : Int) + 32 := by simp [IntKind.wrap, IntKind.bits, IntKind.signed]; omega
  rw [this]
  omega
theorem low_no {b : UInt8} (h : ¬ (65 ≤ b.toNat ∧ b.toNat ≤ 90)) : lowB b = b := by
  unfold lowB
  rw [if_neg h]
theorem OwnRep.aside {α : Type} {k : Nat} {enc : α → List Value} {e : TypeId} {base : Nat} {w w' : World} {ob : Option Nat} {xs : List α} {v : Value} (h : OwnRep k (flat enc) e base w xs v) (hg : w.grownBy w' ob) (hne : ∀ b, v.ownBlock = some b → ob ≠ some b) : OwnRep k (flat enc) e base w' xs v :=
  h.keep (fun b hb => hg.block b (h.own_lt b hb).2 (fun e => hne b hb e.symm))
theorem index_nat (n : ByteArray) (k : Nat) (h : k < n.size) : n.data.toList.drop k = n.data.toList.getD k 0 :: n.data.toList.drop (k + 1) := by
  have h' : k < n.data.toList.length := by rw [Array.length_toList]; exact h
  rw [List.drop_eq_getElem_cons h', List.getD_eq_getElem?_getD, List.getElem?_eq_getElem h']
  rfl
theorem getD_nat (n : ByteArray) (k : Nat) (h : k < n.size) : n.data.toList.getD k 0 = n[k] := by
  rw [List.getD_eq_getElem?_getD, List.getElem?_eq_getElem (by rw [Array.length_toList]; exact h)]
  rfl
set_option maxRecDepth 100000 in
set_option maxHeartbeats 4000000 in
theorem words_c (s : ByteArray) (w : World) (hs : s.size ≤ 1000000) :
    Calls Tryz.prog 70 #[.string s] w fun e w' => ∃ v, e = .returned v ∧ OwnRep 1 (flat strEnc) 9 w.heap.size w' (wordsF s) v ∧ Below w.heap.size w w' := by
  have H0 := Lib.hid (show wordsF s = [] ++ wordsG [] (s.data.toList.drop 0) from rfl)
  go_enter Tryz.func70, Tryz.ntmps70
  go_wp2
  go_loopw [3, 4, 5] (fun o d i wr => ∃ (k : Nat) (os : List ByteArray) (cur : List UInt8), k ≤ s.size + 1 ∧ i = .int .i64 k ∧ (k ≤ s.size → Hid (wordsF s = os ++ wordsG cur (s.data.toList.drop k))) ∧ (s.size < k → Hid (wordsF s = os)) ∧ OwnRep 1 (flat strEnc) 9 w.heap.size wr os o ∧ OwnRep 1 (flat u8Enc) 5 w.heap.size wr cur d ∧ (∀ b, o.ownBlock = some b → d.ownBlock ≠ some b) ∧ Below w.heap.size w wr ∧ os.length ≤ k ∧ cur.length ≤ k) (fun _ _ i _ => s.size + 1 - (intOf i).toNat)
  case atStart => exact ⟨0, [], [], Nat.zero_le _, rfl, fun _ => H0, fun h => absurd h (by omega), OwnRep.nil_, OwnRep.nil_, fun b h => by simp [Value.ownBlock] at h, Below.refl _ _, Nat.zero_le _, Nat.zero_le _⟩
  case round =>
    clear H0
    obtain ⟨k, os, cur, hk, rfl, hR, hE, ho, hd, hne, hbw, hol, hcl⟩ := hrel
    by_cases hin : k ≤ s.size
    · -- what follows once the byte is known
      have HS := Lib.hid (fun (hlt : k < s.size) (hp : plnB (lowB s[k]) = true) => (by
        rw [(hR hin).out, index_nat s k hlt, getD_nat s k hlt, wordsG, if_pos hp] : wordsF s = os ++ wordsG (cur ++ [lowB s[k]]) (s.data.toList.drop (k + 1))))
      have HT := Lib.hid (fun (hlt : k < s.size) (hp : plnB (lowB s[k]) = false) => (by
        rw [(hR hin).out, index_nat s k hlt, getD_nat s k hlt, wordsG, if_neg (by rw [hp]; simp), List.append_assoc] : wordsF s = (os ++ endW cur) ++ wordsG [] (s.data.toList.drop (k + 1))))
      have HU := Lib.hid (fun (hlt : k = s.size) => (by
        rw [(hR hin).out, List.drop_of_length_le (by rw [Array.length_toList]; show s.size ≤ k; omega), wordsG] : wordsF s = os ++ endW cur))
      obtain ⟨y, hy⟩ : ∃ y : UInt8, (k < s.size ∧ ∃ h : k < s.size, y = lowB s[k]) ∨ (k = s.size ∧ y = 32) := by
        by_cases hlt : k < s.size
        · exact ⟨_, .inl ⟨hlt, hlt, rfl⟩⟩
        · exact ⟨32, .inr ⟨by omega, rfl⟩⟩
      have HP := Lib.hid (fun (hp : plnB y = true) => (by
        rcases hy with ⟨-, hlt, rfl⟩ | ⟨-, rfl⟩
        · exact ⟨fun _ => Lib.hid (HS.out hlt hp), hlt⟩
        · exact absurd hp (by decide) : (k + 1 ≤ s.size → Hid (wordsF s = os ++ wordsG (cur ++ [y]) (s.data.toList.drop (k + 1)))) ∧ k < s.size))
      have HN := Lib.hid (fun (hp : plnB y = false) => (by
        rcases hy with ⟨-, hlt, rfl⟩ | ⟨h, rfl⟩
        · exact ⟨fun _ => Lib.hid (HT.out hlt hp), fun h => absurd h (by omega)⟩
        · exact ⟨fun h => absurd h (by omega), fun _ => Lib.hid (HU.out h)⟩ : (k + 1 ≤ s.size → Hid (wordsF s = (os ++ endW cur) ++ wordsG [] (s.data.toList.drop (k + 1)))) ∧ (s.size < k + 1 → Hid (wordsF s = os ++ endW cur))))
      have HPL := Lib.hid (plnI_nat y)
      have HW := Lib.hid (fun (h : k < s.size) => And.intro (low_up (b := s[k])) (low_no (b := s[k])))
      clear HS HT HU hR hE
      have hki : (k : Int) ≤ (s.size : Int) := by omega
      obtain ⟨A1, c1, rfl, -⟩ := id (ho.toSl strS)
      obtain ⟨A2, c2, rfl, hd1, hd2, -⟩ := id (hd.toSl u8S)
      rcases hy with ⟨hlt, hlt', rfl⟩ | ⟨hlt, rfl⟩
      · have hks : (k : Int) < (s.size : Int) := by omega
        by_cases hu : 65 ≤ s[k].toNat ∧ s[k].toNat ≤ 90
        · have hw := (HW.out hlt).1 hu
          have hu1 : (65 : Int) ≤ (s[k].toNat : Int) := by omega
          have hu2 : (s[k].toNat : Int) ≤ 90 := by omega
          clear HW hu
          go_wp2_with fail
          refine (plain_c _ _).mono ?_
          rintro e w2 ⟨rfl, rfl⟩
          cases hpb : plnB (lowB s[k])
          · obtain ⟨q1, q2⟩ := HN.out hpb
            rw [HPL.out, hpb]
            clear HP HN hpb
            by_cases hcu : cur = []
            · subst hcu
              have e0 : endW [] = [] := rfl
              rw [e0, List.append_nil] at q1 q2
              have hz : ((([] : List UInt8).length : Nat) : Int) = 0 := rfl
              go_wp2
              go_roundw
              case rel => exact ⟨k + 1, os, [], by omega, by go_num, q1, q2, ho, hd, hne, hbw, by omega, by simp⟩
              case measure => simp [intOf]; omega
            · have hcv := str_of_bytes (hd.toSl u8S) hcu
              have hpos : (0 : Int) < (cur.length : Int) := by
                have : cur.length ≠ 0 := fun e => hcu (List.eq_nil_of_length_eq_zero e)
                omega
              have e0 : endW cur = [⟨cur.toArray⟩] := by unfold endW; rw [if_neg hcu]
              rw [e0] at q1 q2
              obtain ⟨nw, hnw⟩ : ∃ nw : ByteArray, (⟨cur.toArray⟩ : ByteArray) = nw := ⟨_, rfl⟩
              rw [hnw] at hcv q1 q2
              clear hnw e0
              have hb2 : Below wr.heap.size wr (wr.alloc (.cells #[.string nw] 9)) := (Below.refl _ _).alloc (Nat.le_refl _) _
              go_wp2_with (at_builtin; refine stop_intro ?_)
              refine stop_elim ?_
              refine wpList_append_rep rfl strS strE_ w.heap.size (.tmp 37) (.tmp 40) rfl rfl (ho.below strS hb2) rfl (ys := [nw]) (SlRep.one_new strS (w := wr) (F := fun _ => False) (x := nw) (cs := strEnc nw) rfl rfl (fun _ hb => hb.elim)) ?_ (by simp; omega) (by decide) (by have := hbw.size; simp; omega) ?_
              · intro b hb
                rcases hb with hb | rfl
                · exact hb.elim
                · exact ⟨by simp, fun e => by have := (ho.own_lt _ e).2; omega⟩
              intro v6 w6 hown6 hg6 hat6
              have hb6 : Below w.heap.size w w6 := (hbw.trans (hb2.mono hbw.size)).grown hg6 (by have := hbw.size; simp; omega) (fun j hj => (ho.own_lt j hj).1)
              obtain ⟨A6, c6, rfl, -⟩ := id (hown6.toSl strS)
              have hl6 : (os ++ [nw]).length ≤ k + 1 := by simp; omega
              obtain ⟨on, hon⟩ : ∃ on, os ++ [nw] = on := ⟨_, rfl⟩
              rw [hon] at hown6 q1 q2 hl6 ⊢
              clear hg6 hat6 hon ho hd hne
              go_wp2
              go_roundw
              case rel => exact ⟨k + 1, on, [], by omega, by go_num, q1, q2, hown6, OwnRep.nil_, fun b _ h => by simp [Value.ownBlock] at h, hb6, hl6, by simp⟩
              case measure => simp [intOf]; omega
          · obtain ⟨q1, hlt'⟩ := HP.out hpb
            rw [HPL.out, hpb]
            clear HP HN hpb
            have hb2 : Below wr.heap.size wr (wr.alloc (.cells #[.int .u8 ((lowB s[k]).toNat : Int)] 5)) := (Below.refl _ _).alloc (Nat.le_refl _) _
            go_wp2_with (at_builtin; refine stop_intro ?_)
            refine stop_elim ?_
            refine wpList_append_rep rfl u8S u8E_ w.heap.size (.tmp 30) (.tmp 32) rfl rfl (hd.below u8S hb2) rfl (ys := [(lowB s[k])]) (SlRep.one_new u8S (w := wr) (F := fun _ => False) (x := (lowB s[k])) (cs := u8Enc ((lowB s[k]))) rfl rfl (fun _ hb => hb.elim)) ?_ (by simp; omega) (by decide) (by have := hbw.size; simp; omega) ?_
            · intro b hb
              rcases hb with hb | rfl
              · exact hb.elim
              · exact ⟨by simp, fun e => by have := (hd.own_lt _ e).2; omega⟩
            intro v6 w6 hown6 hg6 hat6
            have hb6 : Below w.heap.size w w6 := (hbw.trans (hb2.mono hbw.size)).grown hg6 (by have := hbw.size; simp; omega) (fun j hj => (hd.own_lt j hj).1)
            have ho6 := (ho.below strS hb2).aside hg6 (fun b hb e => hne b hb e)
            have hlo := ho.own_lt
            obtain ⟨A6, c6, rfl, -⟩ := id (hown6.toSl u8S)
            have hne6 : ∀ b, Value.ownBlock (.slice A1 os.length c1) = some b → Value.ownBlock (.slice A6 (cur ++ [(lowB s[k])]).length c6) ≠ some b := fun b hb e => by
              rcases hat6 with h | h
              · exact hne b hb (h.symm.trans e)
              · have e2 := h.symm.trans e
                injection e2 with e2
                have := (hlo b hb).2
                simp at e2
                omega
            have hl6 : (cur ++ [(lowB s[k])]).length ≤ k + 1 := by simp; omega
            obtain ⟨cn, hcn⟩ : ∃ cn, cur ++ [(lowB s[k])] = cn := ⟨_, rfl⟩
            rw [hcn] at hown6 hl6 hne6 q1 ⊢
            clear hg6 hat6 hcn ho hd hne hlo
            go_wp2
            go_roundw
            case rel => exact ⟨k + 1, os, cn, by omega, by go_num, q1, fun h => absurd h (by omega), ho6, hown6, hne6, hb6, by omega, hl6⟩
            case measure => simp [intOf]; omega
        · have hw := (HW.out hlt).2 hu
          clear HW
          rw [hw] at HPL HP HN
          rcases (by omega : (s[k].toNat : Int) < 65 ∨ (65 ≤ (s[k].toNat : Int) ∧ 90 < (s[k].toNat : Int))) with hv | ⟨hv0, hv⟩
          all_goals
            go_wp2_with fail
            refine (plain_c _ _).mono ?_
            rintro e w2 ⟨rfl, rfl⟩
            cases hpb : plnB s[k]
            · obtain ⟨q1, q2⟩ := HN.out hpb
              rw [HPL.out, hpb]
              clear HP HN hpb
              by_cases hcu : cur = []
              · subst hcu
                have e0 : endW [] = [] := rfl
                rw [e0, List.append_nil] at q1 q2
                have hz : ((([] : List UInt8).length : Nat) : Int) = 0 := rfl
                go_wp2
                go_roundw
                case rel => exact ⟨k + 1, os, [], by omega, by go_num, q1, q2, ho, hd, hne, hbw, by omega, by simp⟩
                case measure => simp [intOf]; omega
              · have hcv := str_of_bytes (hd.toSl u8S) hcu
                have hpos : (0 : Int) < (cur.length : Int) := by
                  have : cur.length ≠ 0 := fun e => hcu (List.eq_nil_of_length_eq_zero e)
                  omega
                have e0 : endW cur = [⟨cur.toArray⟩] := by unfold endW; rw [if_neg hcu]
                rw [e0] at q1 q2
                obtain ⟨nw, hnw⟩ : ∃ nw : ByteArray, (⟨cur.toArray⟩ : ByteArray) = nw := ⟨_, rfl⟩
                rw [hnw] at hcv q1 q2
                clear hnw e0
                have hb2 : Below wr.heap.size wr (wr.alloc (.cells #[.string nw] 9)) := (Below.refl _ _).alloc (Nat.le_refl _) _
                go_wp2_with (at_builtin; refine stop_intro ?_)
                refine stop_elim ?_
                refine wpList_append_rep rfl strS strE_ w.heap.size (.tmp 37) (.tmp 40) rfl rfl (ho.below strS hb2) rfl (ys := [nw]) (SlRep.one_new strS (w := wr) (F := fun _ => False) (x := nw) (cs := strEnc nw) rfl rfl (fun _ hb => hb.elim)) ?_ (by simp; omega) (by decide) (by have := hbw.size; simp; omega) ?_
                · intro b hb
                  rcases hb with hb | rfl
                  · exact hb.elim
                  · exact ⟨by simp, fun e => by have := (ho.own_lt _ e).2; omega⟩
                intro v6 w6 hown6 hg6 hat6
                have hb6 : Below w.heap.size w w6 := (hbw.trans (hb2.mono hbw.size)).grown hg6 (by have := hbw.size; simp; omega) (fun j hj => (ho.own_lt j hj).1)
                obtain ⟨A6, c6, rfl, -⟩ := id (hown6.toSl strS)
                have hl6 : (os ++ [nw]).length ≤ k + 1 := by simp; omega
                obtain ⟨on, hon⟩ : ∃ on, os ++ [nw] = on := ⟨_, rfl⟩
                rw [hon] at hown6 q1 q2 hl6 ⊢
                clear hg6 hat6 hon ho hd hne
                go_wp2
                go_roundw
                case rel => exact ⟨k + 1, on, [], by omega, by go_num, q1, q2, hown6, OwnRep.nil_, fun b _ h => by simp [Value.ownBlock] at h, hb6, hl6, by simp⟩
                case measure => simp [intOf]; omega
            · obtain ⟨q1, hlt'⟩ := HP.out hpb
              rw [HPL.out, hpb]
              clear HP HN hpb
              have hb2 : Below wr.heap.size wr (wr.alloc (.cells #[.int .u8 (s[k].toNat : Int)] 5)) := (Below.refl _ _).alloc (Nat.le_refl _) _
              go_wp2_with (at_builtin; refine stop_intro ?_)
              refine stop_elim ?_
              refine wpList_append_rep rfl u8S u8E_ w.heap.size (.tmp 30) (.tmp 32) rfl rfl (hd.below u8S hb2) rfl (ys := [s[k]]) (SlRep.one_new u8S (w := wr) (F := fun _ => False) (x := s[k]) (cs := u8Enc (s[k])) rfl rfl (fun _ hb => hb.elim)) ?_ (by simp; omega) (by decide) (by have := hbw.size; simp; omega) ?_
              · intro b hb
                rcases hb with hb | rfl
                · exact hb.elim
                · exact ⟨by simp, fun e => by have := (hd.own_lt _ e).2; omega⟩
              intro v6 w6 hown6 hg6 hat6
              have hb6 : Below w.heap.size w w6 := (hbw.trans (hb2.mono hbw.size)).grown hg6 (by have := hbw.size; simp; omega) (fun j hj => (hd.own_lt j hj).1)
              have ho6 := (ho.below strS hb2).aside hg6 (fun b hb e => hne b hb e)
              have hlo := ho.own_lt
              obtain ⟨A6, c6, rfl, -⟩ := id (hown6.toSl u8S)
              have hne6 : ∀ b, Value.ownBlock (.slice A1 os.length c1) = some b → Value.ownBlock (.slice A6 (cur ++ [s[k]]).length c6) ≠ some b := fun b hb e => by
                rcases hat6 with h | h
                · exact hne b hb (h.symm.trans e)
                · have e2 := h.symm.trans e
                  injection e2 with e2
                  have := (hlo b hb).2
                  simp at e2
                  omega
              have hl6 : (cur ++ [s[k]]).length ≤ k + 1 := by simp; omega
              obtain ⟨cn, hcn⟩ : ∃ cn, cur ++ [s[k]] = cn := ⟨_, rfl⟩
              rw [hcn] at hown6 hl6 hne6 q1 ⊢
              clear hg6 hat6 hcn ho hd hne hlo
              go_wp2
              go_roundw
              case rel => exact ⟨k + 1, os, cn, by omega, by go_num, q1, fun h => absurd h (by omega), ho6, hown6, hne6, hb6, by omega, hl6⟩
              case measure => simp [intOf]; omega
      · clear HW
        go_wp2_with fail
        refine (plain_c _ _).mono ?_
        rintro e w2 ⟨rfl, rfl⟩
        cases hpb : plnB (32 : UInt8)
        · obtain ⟨q1, q2⟩ := HN.out hpb
          rw [show plnI 32 = plnB 32 from rfl, hpb]
          clear HP HN hpb
          by_cases hcu : cur = []
          · subst hcu
            have e0 : endW [] = [] := rfl
            rw [e0, List.append_nil] at q1 q2
            have hz : ((([] : List UInt8).length : Nat) : Int) = 0 := rfl
            go_wp2
            go_roundw
            case rel => exact ⟨k + 1, os, [], by omega, by go_num, q1, q2, ho, hd, hne, hbw, by omega, by simp⟩
            case measure => simp [intOf]; omega
          · have hcv := str_of_bytes (hd.toSl u8S) hcu
            have hpos : (0 : Int) < (cur.length : Int) := by
              have : cur.length ≠ 0 := fun e => hcu (List.eq_nil_of_length_eq_zero e)
              omega
            have e0 : endW cur = [⟨cur.toArray⟩] := by unfold endW; rw [if_neg hcu]
            rw [e0] at q1 q2
            obtain ⟨nw, hnw⟩ : ∃ nw : ByteArray, (⟨cur.toArray⟩ : ByteArray) = nw := ⟨_, rfl⟩
            rw [hnw] at hcv q1 q2
            clear hnw e0
            have hb2 : Below wr.heap.size wr (wr.alloc (.cells #[.string nw] 9)) := (Below.refl _ _).alloc (Nat.le_refl _) _
            go_wp2_with (at_builtin; refine stop_intro ?_)
            refine stop_elim ?_
            refine wpList_append_rep rfl strS strE_ w.heap.size (.tmp 37) (.tmp 40) rfl rfl (ho.below strS hb2) rfl (ys := [nw]) (SlRep.one_new strS (w := wr) (F := fun _ => False) (x := nw) (cs := strEnc nw) rfl rfl (fun _ hb => hb.elim)) ?_ (by simp; omega) (by decide) (by have := hbw.size; simp; omega) ?_
            · intro b hb
              rcases hb with hb | rfl
              · exact hb.elim
              · exact ⟨by simp, fun e => by have := (ho.own_lt _ e).2; omega⟩
            intro v6 w6 hown6 hg6 hat6
            have hb6 : Below w.heap.size w w6 := (hbw.trans (hb2.mono hbw.size)).grown hg6 (by have := hbw.size; simp; omega) (fun j hj => (ho.own_lt j hj).1)
            obtain ⟨A6, c6, rfl, -⟩ := id (hown6.toSl strS)
            have hl6 : (os ++ [nw]).length ≤ k + 1 := by simp; omega
            obtain ⟨on, hon⟩ : ∃ on, os ++ [nw] = on := ⟨_, rfl⟩
            rw [hon] at hown6 q1 q2 hl6 ⊢
            clear hg6 hat6 hon ho hd hne
            go_wp2
            go_roundw
            case rel => exact ⟨k + 1, on, [], by omega, by go_num, q1, q2, hown6, OwnRep.nil_, fun b _ h => by simp [Value.ownBlock] at h, hb6, hl6, by simp⟩
            case measure => simp [intOf]; omega
        · exact absurd hpb (by decide)
    · have hl2 : k = s.size + 1 := by omega
      have hF := hE (by omega)
      rw [← hF.out] at ho
      obtain ⟨A1, c1, rfl, -⟩ := id (ho.toSl strS)
      subst hl2
      clear hR hE hF
      go_wp2
      go_ret
      exact ⟨_, rfl, ho, hbw⟩
end Go.Proofs.YtngodakkdhdmjaaGreatDoor
