/- The program: put. -/
import Derived.Test.YtpfngehledgkiaaGreatIvK
namespace Go.Proofs.YtpfngehledgkiaaGreat
open Go.RowKit

theorem grown_of_below {w w' : World} (h : Below w.heap.size w w') (row : Option Nat) : w.grownBy w' row := ⟨h.os, h.tape, h.output, h.size, fun k hk _ => h.block k hk⟩
theorem below_of_grown {B : Nat} {w w' : World} {row : Option Nat} (h : w.grownBy w' row) (hB : B ≤ w.heap.size) (hr : ∀ k, row = some k → B ≤ k) : Below B w w' := (Below.refl B w).grown h hB hr
/-- a row's block, before and behind: the same one, or one that is new -/
def NewOr (m : Nat) (v v' : Value) : Prop := v'.ownBlock = v.ownBlock ∨ ∀ b, v'.ownBlock = some b → m ≤ b
theorem NewOr.step {m : Nat} {v v' v'' : Value} {w : World} (h : NewOr m v v') (hat : v''.ownBlock = v'.ownBlock ∨ v''.ownBlock = some w.heap.size) (hm : m ≤ w.heap.size) : NewOr m v v'' := by
  rcases hat with e | e
  · rcases h with h | h
    · exact .inl (e.trans h)
    · exact .inr (fun b hb => h b (e ▸ hb))
  · exact .inr (fun b hb => by rw [e] at hb; injection hb with hb; omega)
theorem NewOr.row {w w' : World} {v v' : Value} (h : NewOr w.heap.size v v') {w'' : World} (hg : w.grownBy w' v.ownBlock) (hg2 : w'.grownBy w'' v'.ownBlock) : w.grownBy w'' v.ownBlock :=
  hg.andThen hg2 (fun j hj => by
    rcases h with h | h
    · exact .inr (h ▸ hj)
    · exact .inl (h j hj))
theorem NewOr.mono {m m' : Nat} {v v' : Value} (h : NewOr m v v') (hm : m' ≤ m) : NewOr m' v v' := by
  rcases h with h | h
  · exact .inl h
  · exact .inr (fun b hb => Nat.le_trans hm (h b hb))
theorem NewOr.both {m : Nat} {v v' v'' : Value} (h : NewOr m v v') (h2 : NewOr m v' v'') : NewOr m v v'' := by
  rcases h2 with h2 | h2
  · rcases h with h | h
    · exact .inl (h2.trans h)
    · exact .inr (fun b hb => h b (h2 ▸ hb))
  · exact .inr h2
theorem own_form {α : Type} {k : Nat} {R : CRep α} (hR : Shape k R) {e : TypeId} {base : Nat} {w : World} {xs : List α} {v : Value} (h : OwnRep k R e base w xs v) : ∃ A n c, v = .slice A n c ∧ Hid (n = xs.length) := by
  obtain ⟨A, c, e1, -⟩ := h.toSl hR
  exact ⟨A, _, c, e1, Lib.hid rfl⟩
theorem putG_snoc {u n : Int} {ws : List ByteArray} {k : Nat} {x : ByteArray} (h : ws[k]? = some x) : (putG u n 0 ws).take (k + 1) = (putG u n 0 ws).take k ++ [⟨x, u, n, (k : Int)⟩] := by
  have := putG_at u n ws 0 k x h
  rw [Nat.zero_add] at this
  exact take_at this
set_option maxRecDepth 100000 in
set_option maxHeartbeats 4000000 in
theorem put_c (l : List Post) (v : Value) (u n : Int) (t : ByteArray) (base : Nat) (w : World) (h : OwnRep 4 (flat Post.enc) 43 base w l v) (hbase : base ≤ w.heap.size) (ht : t.size ≤ 1000000) (hl : l.length ≤ 1000000) :
    Calls Tryz.prog 91 #[v, .int .i64 u, .int .i64 n, .string t] w fun e w' => ∃ v', e = .returned v' ∧ OwnRep 4 (flat Post.enc) 43 base w' (l ++ putF u n t) v' ∧ w.grownBy w' v.ownBlock ∧ NewOr w.heap.size v v' := by
  obtain ⟨A0, c0, rfl, -⟩ := id (h.toSl pstS)
  have HW := Lib.hid (words_c t w ht)
  have HLN := Lib.hid (wordsF_len t)
  have HPF := Lib.hid (show putF u n t = putG u n 0 (wordsF t) from rfl)
  generalize putF u n t = pf at *
  generalize wordsF t = ws at *
  go_enter Tryz.func91, Tryz.ntmps91
  go_wp2_with fail
  refine HW.out.mono ?_
  rintro e w1 ⟨vw, rfl, hws, hb1⟩
  have hwl := hws.own_lt
  have hown := h.own_lt
  have HWS := Lib.hid (hws.toFlat strS)
  have hs1 := hb1.size
  have hr0 := h.keep (w' := w1) (fun b hb => hb1.block b (hown b hb).2)
  have hg1 := grown_of_below hb1 (Value.ownBlock (.slice A0 l.length c0))
  obtain ⟨Aw, cw, rfl, hw1, hw2, -⟩ := id (hws.toSl strS)
  have HLV := Lib.hid (show (l ++ (putG u n 0 ws).take 0) = l by simp)
  go_wp2
  go_loopw [0, 14] (fun s i wr => ∃ (k : Nat) (v' : Value), k ≤ ws.length ∧ i = .int .i64 k ∧ s = v' ∧ OwnRep 4 (flat Post.enc) 43 base wr (l ++ (putG u n 0 ws).take k) v' ∧ w.grownBy wr (Value.ownBlock (.slice A0 l.length c0)) ∧ NewOr w1.heap.size (.slice A0 l.length c0) v' ∧ w1.grownBy wr (Value.ownBlock (.slice A0 l.length c0))) (fun _ i _ => ws.length - (intOf i).toNat)
  case atStart => exact ⟨0, _, Nat.zero_le _, rfl, rfl, by rw [HLV.out]; exact hr0, hg1, .inl rfl, ⟨rfl, rfl, rfl, Nat.le_refl _, fun _ _ _ => rfl⟩⟩
  case round =>
    clear hr0 hg1 HLV
    obtain ⟨k, v', hk, rfl, rfl, hr, hg, hnw, hg1⟩ := hrel
    have hsr := hg1.size
    by_cases hlt : k < ws.length
    · obtain ⟨x, hx⟩ := get_at ws hlt
      have hsw : SlRep 1 (flat strEnc) wr (fun b => Value.ownBlock (.slice Aw ws.length cw) = some b) ws (.slice Aw ws.length cw) := HWS.out.frame strS (fun b hb => hg1.block b (hwl b hb).2 (fun e => by
        have := (hwl b hb).1
        have := (hown b e.symm).2
        omega))
      obtain ⟨b, off, rfl, hbB, g0⟩ := Strs.at_ hsw hx
      have hbw : b < wr.heap.size := by have := (hwl b hbB).2; omega
      have hki : (k : Int) < (ws.length : Int) := by omega
      have HT := Lib.hid (putG_snoc (u := u) (n := n) hx)
      have hb2 : Below wr.heap.size wr (wr.alloc (pstC ⟨x, u, n, (k : Int)⟩)) := (Below.refl _ _).alloc (Nat.le_refl _) _
      have hlk : (l ++ (putG u n 0 ws).take k).length ≤ 1000000 + 1000000 := by
        rw [List.length_append, List.length_take]
        have := HLN.out
        omega
      have hro := hr.own_lt
      obtain ⟨A1, c1, rfl, -⟩ := id (hr.toSl pstS)
      clear hx
      go_wp2_with (at_builtin; refine stop_intro ?_)
      refine stop_elim ?_
      refine wpList_append_rep rfl pstS pstE_ base (.tmp 19) (.tmp 25) rfl rfl (hr.below pstS hb2) rfl (ys := [⟨x, u, n, (k : Int)⟩]) (SlRep.one_new pstS (w := wr) (F := fun _ => False) (x := ⟨x, u, n, (k : Int)⟩) (cs := Post.enc ⟨x, u, n, (k : Int)⟩) rfl rfl (fun _ hb => hb.elim)) ?_ (by simp at hlk ⊢; omega) (by decide) (by have := hg.size; simp; omega) ?_
      · intro b hb
        rcases hb with hb | rfl
        · exact hb.elim
        · exact ⟨by simp, fun e => by have := (hro _ e).2; omega⟩
      intro v6 w6 hown6 hg6 hat6
      have hg7 : wr.grownBy w6 (Value.ownBlock (.slice A1 (l ++ (putG u n 0 ws).take k).length c1)) := (grown_of_below hb2 _).andThen hg6 (fun j hj => .inr hj)
      have hat7 : v6.ownBlock = Value.ownBlock (.slice A1 (l ++ (putG u n 0 ws).take k).length c1) ∨ ∀ b, v6.ownBlock = some b → wr.heap.size ≤ b := by
        rcases hat6 with e | e
        · exact .inl e
        · exact .inr (fun b hb => by rw [e] at hb; injection hb with hb; simp at hb; omega)
      have hnw6 : NewOr w1.heap.size (.slice A0 l.length c0) v6 := by
        rcases hat7 with e | e
        · rcases hnw with h | h
          · exact .inl (e.trans h)
          · exact .inr (fun b hb => h b (e ▸ hb))
        · exact .inr (fun b hb => by have := e b hb; omega)
      have hga : w.grownBy w6 (Value.ownBlock (.slice A0 l.length c0)) := hg.andThen hg7 (fun j hj => by
        rcases hnw with h | h
        · exact .inr (h ▸ hj)
        · exact .inl (by have := h j hj; omega))
      have hgb : w1.grownBy w6 (Value.ownBlock (.slice A0 l.length c0)) := hg1.andThen hg7 (fun j hj => by
        rcases hnw with h | h
        · exact .inr (h ▸ hj)
        · exact .inl (h j hj))
      have hown7 : OwnRep 4 (flat Post.enc) 43 base w6 (l ++ (putG u n 0 ws).take (k + 1)) v6 := by rw [HT.out, ← List.append_assoc]; exact hown6
      obtain ⟨A6, n6, c6, rfl, hn6⟩ := own_form pstS hown6
      have HO := Lib.hid hown7
      clear hown6 hown7 hat6 hat7 hg6 hr HT hlk
      go_wp2
      go_roundw
      case rel => exact ⟨k + 1, _, by omega, by go_num, rfl, HO.out, hga, hnw6, hgb⟩
      case measure => simp [intOf]; omega
    · have HE := Lib.hid (show l ++ (putG u n 0 ws).take k = l ++ pf by rw [HPF.out, List.take_of_length_le (by rw [putG_len]; omega)])
      rw [HE.out] at hr
      have hnw' := hnw.mono hs1
      obtain ⟨A1, n1, c1, rfl, hn1⟩ := own_form pstS hr
      clear HE
      go_wp2
      go_ret
      exact ⟨_, rfl, hr, hg, hnw'⟩
end Go.Proofs.YtpfngehledgkiaaGreat
