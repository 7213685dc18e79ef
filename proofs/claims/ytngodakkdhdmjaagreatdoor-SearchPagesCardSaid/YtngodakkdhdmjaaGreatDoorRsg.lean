/- The reference of chapter 56: begins, in, Suggest. -/
import Derived.Test.YtngodakkdhdmjaaGreatDoorSus
import Derived.Test.YtngodakkdhdmjaaGreatDoorScp
import Derived.Test.YtngodakkdhdmjaaGreatDoorRqC
namespace Go.Proofs.YtngodakkdhdmjaaGreatDoor
open Go.RowKit

theorem rbegins6_c (s h : ByteArray) (w : World) : Calls Tryz.prog 47 #[.string s, .string h] w fun e w' => e = .returned (.bool (pfxB h s)) ∧ w = w' := by
  by_cases hlt : s.size < h.size
  · have HE := Lib.hid (pfxB_big hlt)
    have hd : ¬ (h.size : Int) ≤ (s.size : Int) := by omega
    go_enter Tryz.func47, Tryz.ntmps47
    go_wp2
    go_ret
    exact ⟨ret_bool HE.out.symm, rfl⟩
  · have HE := Lib.hid (pfxB_is (h := h) (s := s))
    have hd : (h.size : Int) ≤ (s.size : Int) := by omega
    go_enter Tryz.func47, Tryz.ntmps47
    go_wp2
    go_ret
    refine ⟨ret_bool ?_, rfl⟩
    rw [HE.out]
    first | rfl | (rw [← str_eq]; done) | (rw [str_eq]; done)
set_option maxRecDepth 100000 in
theorem in6_c (xs : List ByteArray) (s : ByteArray) (v : Value) (w : World) (B : Nat) (hB : B ≤ w.heap.size) (h : Strs w B xs v) :
    Calls Tryz.prog 48 #[v, .string s] w fun e w' => e = .returned (.bool (hasS xs s)) ∧ w = w' := by
  obtain ⟨A, c, rfl, hc1, hc2, -⟩ := id h
  have HH := Lib.hid h
  have H0 := Lib.hid (show hasS xs s = hasS (xs.drop 0) s from rfl)
  clear h
  go_enter Tryz.func48, Tryz.ntmps48
  go_wp2
  go_loop [5] (fun i => ∃ k : Nat, k ≤ xs.length ∧ i = .int .i64 k ∧ Hid (hasS xs s = hasS (xs.drop k) s)) (fun i => xs.length - (intOf i).toNat)
  case atStart => exact ⟨0, Nat.zero_le _, rfl, H0⟩
  case round =>
    clear H0
    obtain ⟨k, hk, rfl, HS⟩ := hrel
    by_cases hlt : k < xs.length
    · obtain ⟨x, hx⟩ := get_at xs hlt
      obtain ⟨b, off, rfl, hbB, q0⟩ := Strs.at_ HH.out hx
      have hbw : b < w.heap.size := Nat.lt_of_lt_of_le hbB hB
      have hki : (k : Int) < (xs.length : Int) := by omega
      have hd := drop_at hx
      by_cases hxs : x = s
      · have HE := Lib.hid (show hasS xs s = true by rw [HS.out, hd, hxs]; simp [hasS])
        have e1 := beq_strT hxs
        clear hx hd HS hxs
        go_wp2
        go_ret
        exact ⟨ret_bool HE.out.symm, rfl⟩
      · have HE := Lib.hid (show hasS xs s = hasS (xs.drop (k + 1)) s by rw [HS.out, hd]; simp [hasS, hxs])
        have e1 := beq_strF hxs
        have hwk : IntKind.i64.wrap ((k : Int) + 1) = (k : Int) + 1 := IntWalk.i64_in _ (by omega)
        clear hx hd HS hxs
        go_wp2
        go_round
        case rel => exact ⟨k + 1, by omega, by go_num, HE⟩
        case measure => simp [intOf]; omega
    · have HE := Lib.hid (show hasS xs s = false by rw [HS.out, List.drop_of_length_le (by omega)]; rfl)
      have hki : ¬ (k : Int) < (xs.length : Int) := by omega
      clear HS
      go_wp2
      go_ret
      exact ⟨ret_bool HE.out.symm, rfl⟩
def slN : Value → Nat
  | .slice _ n _ => n
  | _ => 0
def wrdC (l : List Post) : List ByteArray := if chkL l = 0 then wrdL l else []
theorem wrdG_len6 : ∀ (l : List Post) (q : Option ByteArray), (wrdG q l).length ≤ l.length
  | [], q => by simp [wrdG]
  | p :: r, q => by
    unfold wrdG
    split
    · have := wrdG_len6 r q; simp; omega
    · have := wrdG_len6 r (some p.word); simp; omega
theorem wrdC_len (l : List Post) : (wrdC l).length ≤ 65536 := by
  unfold wrdC
  split
  · rename_i h
    have := wrdG_len6 l none
    have := (chkL_zero h).1
    unfold wrdL
    omega
  · simp
theorem wrdC_find {l : List Post} {x : ByteArray} (hx : x ∈ wrdC l) : (findF l x).2 = cntN l x := by
  unfold wrdC at hx
  split at hx
  · rename_i h
    exact find_cnt h x
  · cases hx
theorem sug_stepC (l : List Post) (h : ByteArray) (k : Nat) :
    (k < (sugS l h).length → (bstG l h ((sugS l h).take k) ⟨#[]⟩ 0 (wrdC l)).2 ≠ 0 ∧ (sugS l h).take k ++ [(bstG l h ((sugS l h).take k) ⟨#[]⟩ 0 (wrdC l)).1] = (sugS l h).take (k + 1)) ∧
    ((sugS l h).length ≤ k → (bstG l h ((sugS l h).take k) ⟨#[]⟩ 0 (wrdC l)).2 = 0) := by
  by_cases h0 : chkL l = 0
  · unfold wrdC
    rw [if_pos h0]
    exact sug_step h0 h k
  · have hs : sugS l h = [] := by
      apply List.eq_nil_iff_forall_not_mem.2
      intro x hx
      obtain ⟨p, hp, -⟩ := sugS_mem.1 hx
      unfold segF at hp
      rw [if_neg h0] at hp
      cases hp
    unfold wrdC
    rw [if_neg h0, hs]
    exact ⟨fun hk => absurd hk (by simp), fun _ => rfl⟩
theorem bstG_le (l : List Post) (x : ByteArray) : cntN l x ≤ l.length := List.countP_le_length
theorem bst_yes {l : List Post} {h : ByteArray} {os : List ByteArray} {b x : ByteArray} {m : Nat} {ws : List ByteArray} {j : Nat} (hx : ws[j]? = some x) (h1 : pfxB h x = true) (h2 : m < cntN l x) (h3 : hasS os x = false) : bstG l h os b m (ws.drop j) = bstG l h os x (cntN l x) (ws.drop (j + 1)) := by
  rw [drop_at hx, bstG, if_pos ⟨h1, h2, h3⟩]
theorem bst_no {l : List Post} {h : ByteArray} {os : List ByteArray} {b x : ByteArray} {m : Nat} {ws : List ByteArray} {j : Nat} (hx : ws[j]? = some x) (h1 : pfxB h x = false ∨ ¬ m < cntN l x ∨ hasS os x = true) : bstG l h os b m (ws.drop j) = bstG l h os b m (ws.drop (j + 1)) := by
  rw [drop_at hx, bstG, if_neg]
  rintro ⟨g1, g2, g3⟩
  rcases h1 with h1 | h1 | h1
  · rw [h1] at g1; cases g1
  · exact h1 g2
  · rw [h1] at g3; cases g3
set_option maxRecDepth 100000 in
set_option maxHeartbeats 8000000 in
theorem rsug_c (l : List Post) (h : ByteArray) (n : Int) (v : Value) (w : World) (B : Nat) (hB : B ≤ w.heap.size) (hl : Posts w B l v) (hw : ∀ p ∈ l, p.word.size ≤ 1000000) (hll : l.length ≤ 1000000) :
    Calls Tryz.prog 17 #[v, .string h, .int .i64 n] w fun e w' => ∃ v', e = .returned v' ∧ OwnRep 1 (flat strEnc) 9 w.heap.size w' (sugF l h n) v' ∧ Below w.heap.size w w' := by
  have HW := Lib.hid (rwords5_c l v w B hB hl hw)
  have HF := Lib.hid (fun (x : ByteArray) (W : World) (hW : Below w.heap.size w W) => rfind5_c l v x W B (Nat.le_trans hB hW.size) (hl.below pstS (hW.mono hB)) hw)
  have HB := Lib.hid (fun (x : ByteArray) (W : World) => rbegins6_c x h W)
  have HWL := Lib.hid (wrdC_len l)
  have HWF := Lib.hid (fun (x : ByteArray) (hx : x ∈ wrdC l) => wrdC_find hx)
  have HST := Lib.hid (fun k => sug_stepC l h k)
  have HCL := Lib.hid (fun x => Nat.le_trans (bstG_le l x) hll)
  obtain ⟨A, c, rfl, -⟩ := id hl
  rw [show (if chkL l = 0 then wrdL l else []) = wrdC l from rfl] at HW
  obtain ⟨S, hS⟩ : ∃ S, sugS l h = S := ⟨_, rfl⟩
  have hSL : S.length ≤ 1000000 := by rw [← hS]; exact Nat.le_trans (sugS_len l h) hll
  have HSF := Lib.hid (show sugF l h n = if n < 1 then [] else S.take n.toNat by unfold sugF; rw [hS])
  rw [hS] at HST
  generalize wrdC l = ws at *
  clear hl hw hS hll
  go_enter Tryz.func17, Tryz.ntmps17
  go_wp2_with fail
  refine HW.out.mono ?_
  rintro e w1 ⟨vw, rfl, hws, b1⟩
  have HWS := Lib.hid (fun (W : World) (hW : Below w1.heap.size w1 W) => (hws.toSl strS).below strS hW)
  obtain ⟨Aw, cw, rfl, -⟩ := id (hws.toSl strS)
  have HUP := Lib.hid (fun (W : World) (hW : Below w1.heap.size w1 W) => b1.trans (hW.mono b1.size))
  have hwl : ws.length ≤ 65536 := HWL.out
  have hb1s := b1.size
  clear HW hws b1
  go_wp2
  go_loopw [8] (fun o wr => ∃ (k : Nat) (os : List ByteArray), k ≤ S.length ∧ (k = 0 ∨ (k : Int) ≤ n) ∧ Hid (S.take k = os) ∧ os.length = k ∧ OwnRep 1 (flat strEnc) 9 w1.heap.size wr os o ∧ Below w1.heap.size w1 wr) (fun o _ => S.length - slN o)
  case atStart => exact ⟨0, [], Nat.zero_le _, .inl rfl, Lib.hid (by simp), rfl, OwnRep.nil_, Below.refl _ _⟩
  case round =>
    obtain ⟨k, os, hk, hkn, HOS, hol, hown, bw⟩ := hrel
    obtain ⟨wo, rfl⟩ : ∃ wo : World, wo = wr := ⟨_, rfl⟩
    have HOL := Lib.hid hol
    have hok : os.length ≤ 1000000 := by omega
    obtain ⟨Ao, no, co, rfl, hno⟩ := own_form strS hown
    have hnk : no = k := hno.out.trans hol
    subst hnk
    clear hol
    by_cases hlt : (no : Int) < n
    · have HI := Lib.hid (fun (x : ByteArray) (W : World) (hW : Below wo.heap.size wo W) => in6_c os x (.slice Ao no co) W W.heap.size (Nat.le_refl _) (((hown.below strS hW).toSl strS)))
      have H0 := Lib.hid (show bstG l h os ⟨#[]⟩ 0 ws = bstG l h os ⟨#[]⟩ 0 (ws.drop 0) from rfl)
      go_wp2
      go_loopw [9, 10, 11] (fun sb sm si wr => ∃ (j m : Nat) (b : ByteArray), j ≤ ws.length ∧ si = .int .i64 j ∧ sb = .string b ∧ sm = .int .i64 m ∧ m ≤ 1000000 ∧ Hid (bstG l h os ⟨#[]⟩ 0 ws = bstG l h os b m (ws.drop j)) ∧ Below wo.heap.size wo wr) (fun _ _ si _ => ws.length - (intOf si).toNat)
      case atStart => exact ⟨0, 0, ⟨#[]⟩, Nat.zero_le _, rfl, rfl, rfl, by omega, H0, Below.refl _ _⟩
      case round =>
        clear H0
        obtain ⟨j, m, b, hj, rfl, rfl, rfl, hm, HS, bi⟩ := hrel
        have bwi := bw.trans (bi.mono bw.size)
        by_cases hlj : j < ws.length
        · obtain ⟨x, hx⟩ := get_at ws hlj
          obtain ⟨bb, off, rfl, hbb, q0⟩ := Strs.at_ (HWS.out _ bwi) hx
          have hbw : bb < wr.heap.size := Nat.lt_of_lt_of_le hbb bwi.size
          have hji : (j : Int) < (ws.length : Int) := by omega
          have hwj : IntKind.i64.wrap ((j : Int) + 1) = (j : Int) + 1 := IntWalk.i64_in _ (by omega)
          have hq := HWF.out x (List.mem_of_getElem? hx)
          have HFX := Lib.hid (HF.out x wr (HUP.out _ bwi))
          obtain ⟨f1, hf1⟩ : ∃ f1, (findF l x).1 = f1 := ⟨_, rfl⟩
          rw [hf1, hq] at HFX
          have HBX := Lib.hid (HB.out x)
          have HIX := Lib.hid (HI.out x)
          have HY := Lib.hid (fun h1 h2 h3 => bst_yes (l := l) (h := h) (os := os) (b := b) (m := m) hx h1 h2 h3)
          have HN := Lib.hid (fun h1 => bst_no (l := l) (h := h) (os := os) (b := b) (m := m) hx h1)
          have hqc := HCL.out x
          obtain ⟨q, hqq⟩ : ∃ q, cntN l x = q := ⟨_, rfl⟩
          rw [hqq] at HFX HY HN hqc
          clear hq hf1 hqq hx
          go_wp2_with fail
          refine HFX.out.mono ?_
          rintro e w3 ⟨rfl, hb3⟩
          have bi3 := bnd_call bi (Nat.le_refl _) hb3
          have bwi3 := bw.trans (bi3.mono bw.size)
          have q3 := (hb3.cell (p := ⟨bb, off + j, none⟩) hbw).trans q0
          have hbw3 := Nat.lt_of_lt_of_le hbw hb3.size
          clear q0 hbw HFX hb3 bi bwi
          cases hp : pfxB h x
          · have HZ := Lib.hid (HS.out.trans (HN.out (.inl hp)))
            rw [hp] at HBX
            clear HS HN HY hp
            go_wp2_with fail
            refine (HBX.out _).mono ?_
            rintro e w4 ⟨rfl, rfl⟩
            go_wp2
            go_roundw
            case rel => exact ⟨j + 1, m, b, by omega, by go_num, rfl, rfl, hm, HZ, bi3⟩
            case measure => simp [intOf]; omega
          · rw [hp] at HBX
            by_cases hmq : m < q
            · have hmi : (m : Int) < (q : Int) := by omega
              cases ho : hasS os x
              · have HZ := Lib.hid (HS.out.trans (HY.out hp hmq ho))
                rw [ho] at HIX
                clear HS HN HY hp ho
                go_wp2_with fail
                refine (HBX.out _).mono ?_
                rintro e w4 ⟨rfl, rfl⟩
                go_wp2_with fail
                refine (HIX.out _ bi3).mono ?_
                rintro e w5 ⟨rfl, rfl⟩
                go_wp2
                go_roundw
                case rel => exact ⟨j + 1, q, x, by omega, by go_num, rfl, rfl, hqc, HZ, bi3⟩
                case measure => simp [intOf]; omega
              · have HZ := Lib.hid (HS.out.trans (HN.out (.inr (.inr ho))))
                rw [ho] at HIX
                clear HS HN HY hp ho
                go_wp2_with fail
                refine (HBX.out _).mono ?_
                rintro e w4 ⟨rfl, rfl⟩
                go_wp2_with fail
                refine (HIX.out _ bi3).mono ?_
                rintro e w5 ⟨rfl, rfl⟩
                go_wp2
                go_roundw
                case rel => exact ⟨j + 1, m, b, by omega, by go_num, rfl, rfl, hm, HZ, bi3⟩
                case measure => simp [intOf]; omega
            · have hmi : ¬ (m : Int) < (q : Int) := by omega
              have HZ := Lib.hid (HS.out.trans (HN.out (.inr (.inl hmq))))
              clear HS HN HY hp hmq
              go_wp2_with fail
              refine (HBX.out _).mono ?_
              rintro e w4 ⟨rfl, rfl⟩
              go_wp2
              go_roundw
              case rel => exact ⟨j + 1, m, b, by omega, by go_num, rfl, rfl, hm, HZ, bi3⟩
              case measure => simp [intOf]; omega
        · have hji : ¬ (j : Int) < (ws.length : Int) := by omega
          have HE := Lib.hid (show bstG l h os ⟨#[]⟩ 0 ws = (b, m) by rw [HS.out, List.drop_of_length_le (by omega)]; rfl)
          have hownI := hown.below strS bi
          clear HS hown HI
          have HSK := Lib.hid (by
            have := HST.out no
            rw [HOS.out, HE.out] at this
            exact this : (no < S.length → m ≠ 0 ∧ os ++ [b] = S.take (no + 1)) ∧ (S.length ≤ no → m = 0))
          rcases Nat.eq_zero_or_pos m with hm0 | hm0
          · have HX := Lib.hid (show sugF l h n = os by
              have hge : S.length ≤ no := Nat.le_of_not_lt fun hlt' => (HSK.out.1 hlt').1 hm0
              rw [HSF.out, if_neg (by omega), ← HOS.out, List.take_of_length_le (by omega), List.take_of_length_le hge])
            subst hm0
            have HO := Lib.hid hownI
            clear hownI
            go_wp2
            go_ret
            exact ⟨_, rfl, by rw [HX.out]; exact HO.out.base_le hb1s, HUP.out _ bwi⟩
          · have hmi : ((m : Int) == 0) = false := by rw [beq_eq_false_iff_ne]; omega
            have hlt' : no < S.length := Nat.lt_of_not_le fun hge => by have := HSK.out.2 hge; omega
            have HN := Lib.hid (HSK.out.1 hlt').2
            go_wp2_with (at_builtin; refine stop_intro ?_)
            refine stop_elim ?_
            refine wpList_app1 rfl strS strE_ w1.heap.size (.tmp 63) (.tmp 65) rfl rfl hownI (y := b) rfl rfl (by have := HOL.out; omega) (by decide) bwi.size ?_
            intro v6 w6 hown6 hb6
            have b6 := hb6 _ _ (Nat.le_refl _) bwi
            clear hownI hb6
            obtain ⟨A6, n6, c6, rfl, hn6⟩ := own_form strS hown6
            have hn7 : n6 = no + 1 := by rw [hn6.out, List.length_append, HOL.out]; rfl
            subst hn7
            go_wp2
            go_roundw
            case rel => exact ⟨no + 1, os ++ [b], by omega, .inr (by omega), Lib.hid HN.out.symm, hn6.out.symm, hown6, b6⟩
            case measure => simp [slN]; omega
    · have HX := Lib.hid (show sugF l h n = os by
        rw [HSF.out, ← HOS.out]
        rcases hkn with h0 | h1
        · split
          · rw [h0]; simp
          · omega
        · have e : n = (no : Int) := by omega
          rcases Nat.eq_zero_or_pos no with h0 | h0
          · rw [if_pos (by omega), h0]; simp
          · rw [if_neg (by omega), e, Int.toNat_natCast])
      have HO := Lib.hid hown
      clear hown
      go_wp2
      go_ret
      exact ⟨_, rfl, by rw [HX.out]; exact HO.out.base_le hb1s, HUP.out _ bw⟩
end Go.Proofs.YtngodakkdhdmjaaGreatDoor
