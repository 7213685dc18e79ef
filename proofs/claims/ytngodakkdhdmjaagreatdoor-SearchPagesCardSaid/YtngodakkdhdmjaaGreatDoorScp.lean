/- The program: scores, positive nodes, clones of hits and of nodes, equal hits. -/
import Derived.Test.YtngodakkdhdmjaaGreatDoorQrs
import Derived.Test.YtngodakkdhdmjaaGreatDoorSus
import Derived.Test.YtngodakkdhdmjaaGreatDoorBas
namespace Go.Proofs.YtngodakkdhdmjaaGreatDoor
open Go.RowKit

section
variable {α : Type} {k : Nat} {enc : α → List Value} {w : World} {xs : List α} {v : Value}
/-- one element put behind a row of the call's own -/
theorem wpList_app1 {P : Program} {ops : Array Oper} {rest : List Oper} {o : Oper} {a : Act} {Q : Exit → Act → World → Prop} (hgd : o.guard = none) (hR : Shape k (flat enc)) {t e : TypeId} {bytes : Nat} (hE : Elem P t e k bytes) (base : Nat) (s x : Operand)
    (ho : o.op = .call { callee := .builtin .append, args := #[s, x], argTypes := #[t, t] }) {y : α}
    (hs : a.eval s = v) (hown : OwnRep k (flat enc) e base w xs v) {g : Nat} (hg : w.heap.size = g) (hx : a.eval x = .slice (some ⟨g, 0, none⟩) 1 1)
    (hn : xs.length ≤ 100000000) (hby : bytes ≤ 4096) (hbase : base ≤ w.heap.size)
    (h : ∀ v' w', OwnRep k (flat enc) e base w' (xs ++ [y]) v' → (∀ (B : Nat) (a0 : World), B ≤ base → Below B a0 w → Below B a0 w') → wpList P ops Q rest (a.put o.dst v') w') :
    wpList P ops Q (o :: rest) a (w.alloc (.cells (enc y).toArray e)) := by
  subst hg
  have hlt := hown.own_lt
  have hsz : (w.alloc (.cells (enc y).toArray e)).heap.size = w.heap.size + 1 := by simp
  refine wpList_append_rep (xs := xs) hgd hR hE base s x ho hs (hown.below hR ((Below.refl _ _).alloc (Nat.le_refl _) _)) hx (ys := [y]) (F := fun b => False ∨ b = w.heap.size) (SlRep.one_new hR (F := fun _ => False) rfl rfl (fun b hb => hb.elim)) (fun b hb => ?_) (by simp; omega) hby (by omega) ?_
  · rcases hb with hb | rfl
    · exact hb.elim
    · exact ⟨by omega, fun e => by have := (hlt _ e).2; omega⟩
  · intro v6 w6 hown6 hg6 hat6
    exact h v6 w6 hown6 (fun B a0 hB hb => (hb.alloc (by have := hb.size; omega) _).grown hg6 (by have := hb.size; omega) (fun k hk => Nat.le_trans hB (hlt _ hk).1))
end
theorem sco_step (l : List Post) {k : Nat} {p : Post} (h : l[k]? = some p) : scoF (l.take (k + 1)) = if p.field = -1 then scoF (l.take k) + 3 else scoF (l.take k) + 1 := by
  unfold scoF
  rw [take_at h, List.foldl_append]
  rfl
theorem sco_bound : ∀ l : List Post, 0 ≤ scoF l ∧ scoF l ≤ 3 * l.length := by
  have key : ∀ (l : List Post) (n : Int), 0 ≤ n → n ≤ l.foldl (fun n p => if p.field = -1 then n + 3 else n + 1) n ∧ l.foldl (fun n p => if p.field = -1 then n + 3 else n + 1) n ≤ n + 3 * l.length := by
    intro l
    induction l with
    | nil => intro n hn; simp
    | cons p l ih =>
      intro n hn
      rw [List.foldl_cons, List.length_cons]
      split
      · have := ih (n + 3) (by omega)
        omega
      · have := ih (n + 1) (by omega)
        omega
  intro l
  have := key l 0 (by omega)
  unfold scoF
  omega
set_option maxRecDepth 100000 in
set_option maxHeartbeats 2000000 in
theorem score_c (l : List Post) (v : Value) (w : World) (B : Nat) (hB : B ≤ w.heap.size) (h : Posts w B l v) (hl : l.length ≤ 1000000) :
    Calls Tryz.prog 25 #[v] w fun e w' => e = .returned (.int .i64 (scoF l)) ∧ Below w.heap.size w w' := by
  have HR := Lib.hid (fun (W : World) (hW : Below w.heap.size w W) => (h.below pstS (hW.mono hB) : Posts W B l v))
  obtain ⟨A, c, rfl, -⟩ := id h
  have H0 := Lib.hid (show scoF (l.take 0) = 0 from rfl)
  clear h
  go_enter Tryz.func25, Tryz.ntmps25
  go_wp2
  go_loopw [3, 8] (fun n i wr => ∃ k : Nat, k ≤ l.length ∧ i = .int .i64 k ∧ n = .int .i64 (scoF (l.take k)) ∧ Below w.heap.size w wr) (fun _ i _ => l.length - (intOf i).toNat)
  case atStart => exact ⟨0, Nat.zero_le _, rfl, rfl, Below.refl _ _⟩
  case round =>
    obtain ⟨k, hk, rfl, rfl, bw⟩ := hrel
    by_cases hlt : k < l.length
    · obtain ⟨p, hp⟩ := get_at l hlt
      obtain ⟨b, off, rfl, hbB, q0, q1, q2, q3⟩ := Posts.at_ (HR.out _ bw) hp
      have hbw : b < wr.heap.size := by have : b < B := hbB; have := bw.size; omega
      have hki : (k : Int) < (l.length : Int) := by omega
      have hwk : IntKind.i64.wrap ((k : Int) + 1) = (k : Int) + 1 := IntWalk.i64_in _ (by omega)
      have HST := Lib.hid (sco_step l hp)
      have hb := sco_bound (l.take k)
      have hln : (l.take k).length ≤ l.length := by rw [List.length_take]; omega
      obtain ⟨n, hn⟩ : ∃ n, scoF (l.take k) = n := ⟨_, rfl⟩
      rw [hn] at hb HST ⊢
      have hw1 : IntKind.i64.wrap (n + 1) = n + 1 := IntWalk.i64_in _ (by omega)
      have hw2 : IntKind.i64.wrap (n + 1 + 2) = n + 1 + 2 := IntWalk.i64_in _ (by omega)
      have b1 := bw.alloc bw.size (pstC p)
      clear hp hn hln
      by_cases hf : p.field = -1
      · have HST := Lib.hid (show scoF (l.take (k + 1)) = n + 1 + 2 by rw [HST.out, if_pos hf]; omega)
        have hf1 : (p.field == -1) = true := by simp [hf]
        clear hf
        go_wp2
        go_roundw
        case rel => exact ⟨k + 1, by omega, by go_num, by rw [HST.out], b1⟩
        case measure => simp [intOf]; omega
      · have HST := Lib.hid (show scoF (l.take (k + 1)) = n + 1 by rw [HST.out, if_neg hf])
        have hf1 : (p.field == -1) = false := by simp [hf]
        clear hf
        go_wp2
        go_roundw
        case rel => exact ⟨k + 1, by omega, by go_num, by rw [HST.out], b1⟩
        case measure => simp [intOf]; omega
    · have hki : ¬ (k : Int) < (l.length : Int) := by omega
      have HL := Lib.hid (show l.take k = l from List.take_of_length_le (by omega))
      rw [HL.out]
      go_wp2
      go_ret
      exact ⟨rfl, bw⟩
set_option maxRecDepth 100000 in
set_option maxHeartbeats 4000000 in
theorem positive_c (l : List Ask) (v : Value) (w : World) (B : Nat) (hB : B ≤ w.heap.size) (h : Asks w B l v) (hl : l.length ≤ 1000000) :
    Calls Tryz.prog 63 #[v] w fun e w' => ∃ v', e = .returned v' ∧ OwnRep 4 (flat Ask.enc) 53 w.heap.size w' (posG l 0) v' ∧ Below w.heap.size w w' := by
  have HR := Lib.hid (fun (W : World) (hW : Below w.heap.size w W) => (h.below askS (hW.mono hB) : Asks W B l v))
  obtain ⟨A, c, rfl, -⟩ := id h
  have H0 := Lib.hid (show posG l 0 = [] ++ posG (l.drop 0) 0 from rfl)
  clear h
  go_enter Tryz.func63, Tryz.ntmps63
  go_wp2
  go_loopw [3, 4, 10] (fun o d i wr => ∃ (k n : Nat) (os : List Ask), k ≤ l.length ∧ n ≤ k + 1 ∧ os.length ≤ k ∧ i = .int .i64 k ∧ d = .int .i64 n ∧ Hid (posG l 0 = os ++ posG (l.drop k) n) ∧ OwnRep 4 (flat Ask.enc) 53 w.heap.size wr os o ∧ Below w.heap.size w wr) (fun _ _ i _ => l.length - (intOf i).toNat)
  case atStart => exact ⟨0, 0, [], Nat.zero_le _, by omega, by simp, rfl, rfl, H0, OwnRep.nil_, Below.refl _ _⟩
  case round =>
    clear H0
    obtain ⟨k, n, os, hk, hn, hos, rfl, rfl, HS, hown, bw⟩ := hrel
    obtain ⟨Ao, co, rfl, -⟩ := id (hown.toSl askS)
    by_cases hlt : k < l.length
    · obtain ⟨a, ha⟩ := get_at l hlt
      obtain ⟨b, off, rfl, hbB, q0, q1, q2, q3⟩ := Asks.at_ (HR.out _ bw) ha
      have hbw : b < wr.heap.size := by have : b < B := hbB; have := bw.size; omega
      have hki : (k : Int) < (l.length : Int) := by omega
      have hwk : IntKind.i64.wrap ((k : Int) + 1) = (k : Int) + 1 := IntWalk.i64_in _ (by omega)
      have HD := Lib.hid (drop_at ha)
      have b1 := bw.alloc bw.size (askC a)
      have hown1 := hown.below askS ((Below.refl wr.heap.size wr).alloc (Nat.le_refl _) (askC a))
      have HP := Lib.hid (show prtN a.op = if a.op = 6 ∨ a.op = 7 then 2 else if a.op = 8 then 1 else 0 from rfl)
      clear ha hown
      have hcl : a.op = 8 ∨ a.op = 1 ∨ a.op = 2 ∨ a.op = 3 ∨ a.op = 6 ∨ a.op = 7 ∨ (a.op ≠ 8 ∧ a.op ≠ 1 ∧ a.op ≠ 2 ∧ a.op ≠ 3 ∧ a.op ≠ 6 ∧ a.op ≠ 7) := by omega
      have HCL := Lib.hid hcl
      rcases n with _ | n
      · have HX := Lib.hid (show posG l 0 = os ++ (if a.op = 8 then posG (l.drop (k + 1)) 1 else if txtB a.op then a :: posG (l.drop (k + 1)) 0 else posG (l.drop (k + 1)) 0) by rw [HS.out, HD.out]; rfl)
        clear HS HD HP hcl
        rcases HCL.out with h8 | h1 | h2 | h3 | h6 | h7 | ⟨h8, h1, h2, h3, h6, h7⟩
        · have HX := Lib.hid (show posG l 0 = os ++ posG (l.drop (k + 1)) 1 by rw [HX.out, if_pos h8])
          have e8 : (a.op == 8) = true := by rw [h8]; rfl
          clear h8
          go_wp2
          go_roundw
          case rel => exact ⟨k + 1, 1, os, by omega, by omega, by omega, by go_num, rfl, HX, hown1, b1⟩
          case measure => simp [intOf]; omega
        · have e1 : (a.op == 1) = true := by rw [h1]; rfl
          have e6 : (a.op == 6) = false := by rw [h1]; rfl
          have e7 : (a.op == 7) = false := by rw [h1]; rfl
          have e8 : (a.op == 8) = false := by rw [h1]; rfl
          have HX := Lib.hid (show posG l 0 = (os ++ [a]) ++ posG (l.drop (k + 1)) 0 by rw [HX.out, h1]; simp [txtB])
          clear h1
          go_wp2_with (at_builtin; refine stop_intro ?_)
          refine stop_elim ?_
          refine wpList_app1 rfl askS askE_ w.heap.size (.tmp 46) (.tmp 48) rfl rfl hown1 (y := a) (g := wr.heap.size + 1) (by simp) rfl (by omega) (by decide) b1.size ?_
          intro v6 w6 hown6 hb6
          have b6 := hb6 _ _ (Nat.le_refl _) b1
          clear hown1 hb6
          obtain ⟨A6, c6, rfl, -⟩ := id (hown6.toSl askS)
          rw [show (os ++ [a]).length = os.length + 1 by simp] at hown6 ⊢
          go_wp2
          go_roundw
          case rel => exact ⟨k + 1, 0, os ++ [a], by omega, by omega, by simp; omega, by go_num, rfl, HX, hown6, b6⟩
          case measure => simp [intOf]; omega
        · have e1 : (a.op == 1) = false := by rw [h2]; rfl
          have e2 : (a.op == 2) = true := by rw [h2]; rfl
          have e6 : (a.op == 6) = false := by rw [h2]; rfl
          have e7 : (a.op == 7) = false := by rw [h2]; rfl
          have e8 : (a.op == 8) = false := by rw [h2]; rfl
          have HX := Lib.hid (show posG l 0 = (os ++ [a]) ++ posG (l.drop (k + 1)) 0 by rw [HX.out, h2]; simp [txtB])
          clear h2
          go_wp2_with (at_builtin; refine stop_intro ?_)
          refine stop_elim ?_
          refine wpList_app1 rfl askS askE_ w.heap.size (.tmp 46) (.tmp 48) rfl rfl hown1 (y := a) (g := wr.heap.size + 1) (by simp) rfl (by omega) (by decide) b1.size ?_
          intro v6 w6 hown6 hb6
          have b6 := hb6 _ _ (Nat.le_refl _) b1
          clear hown1 hb6
          obtain ⟨A6, c6, rfl, -⟩ := id (hown6.toSl askS)
          rw [show (os ++ [a]).length = os.length + 1 by simp] at hown6 ⊢
          go_wp2
          go_roundw
          case rel => exact ⟨k + 1, 0, os ++ [a], by omega, by omega, by simp; omega, by go_num, rfl, HX, hown6, b6⟩
          case measure => simp [intOf]; omega
        · have e1 : (a.op == 1) = false := by rw [h3]; rfl
          have e2 : (a.op == 2) = false := by rw [h3]; rfl
          have e3 : (a.op == 3) = true := by rw [h3]; rfl
          have e6 : (a.op == 6) = false := by rw [h3]; rfl
          have e7 : (a.op == 7) = false := by rw [h3]; rfl
          have e8 : (a.op == 8) = false := by rw [h3]; rfl
          have HX := Lib.hid (show posG l 0 = (os ++ [a]) ++ posG (l.drop (k + 1)) 0 by rw [HX.out, h3]; simp [txtB])
          clear h3
          go_wp2_with (at_builtin; refine stop_intro ?_)
          refine stop_elim ?_
          refine wpList_app1 rfl askS askE_ w.heap.size (.tmp 46) (.tmp 48) rfl rfl hown1 (y := a) (g := wr.heap.size + 1) (by simp) rfl (by omega) (by decide) b1.size ?_
          intro v6 w6 hown6 hb6
          have b6 := hb6 _ _ (Nat.le_refl _) b1
          clear hown1 hb6
          obtain ⟨A6, c6, rfl, -⟩ := id (hown6.toSl askS)
          rw [show (os ++ [a]).length = os.length + 1 by simp] at hown6 ⊢
          go_wp2
          go_roundw
          case rel => exact ⟨k + 1, 0, os ++ [a], by omega, by omega, by simp; omega, by go_num, rfl, HX, hown6, b6⟩
          case measure => simp [intOf]; omega
        · have HX := Lib.hid (show posG l 0 = os ++ posG (l.drop (k + 1)) 0 by rw [HX.out, h6]; simp [txtB])
          have e8 : (a.op == 8) = false := by rw [h6]; rfl
          have e6 : (a.op == 6) = true := by rw [h6]; rfl
          have e1 : (a.op == 1) = false := by rw [h6]; rfl
          have e2 : (a.op == 2) = false := by rw [h6]; rfl
          have e3 : (a.op == 3) = false := by rw [h6]; rfl
          clear h6
          go_wp2
          go_roundw
          case rel => exact ⟨k + 1, 0, os, by omega, by omega, by omega, by go_num, rfl, HX, hown1, b1⟩
          case measure => simp [intOf]; omega
        · have HX := Lib.hid (show posG l 0 = os ++ posG (l.drop (k + 1)) 0 by rw [HX.out, h7]; simp [txtB])
          have e8 : (a.op == 8) = false := by rw [h7]; rfl
          have e6 : (a.op == 6) = false := by rw [h7]; rfl
          have e7 : (a.op == 7) = true := by rw [h7]; rfl
          have e1 : (a.op == 1) = false := by rw [h7]; rfl
          have e2 : (a.op == 2) = false := by rw [h7]; rfl
          have e3 : (a.op == 3) = false := by rw [h7]; rfl
          clear h7
          go_wp2
          go_roundw
          case rel => exact ⟨k + 1, 0, os, by omega, by omega, by omega, by go_num, rfl, HX, hown1, b1⟩
          case measure => simp [intOf]; omega
        · have HX := Lib.hid (show posG l 0 = os ++ posG (l.drop (k + 1)) 0 by rw [HX.out, if_neg h8]; simp [txtB, h1, h2, h3])
          have e8 : (a.op == 8) = false := by simp [h8]
          have e6 : (a.op == 6) = false := by simp [h6]
          have e7 : (a.op == 7) = false := by simp [h7]
          have e1 : (a.op == 1) = false := by simp [h1]
          have e2 : (a.op == 2) = false := by simp [h2]
          have e3 : (a.op == 3) = false := by simp [h3]
          clear h8 h1 h2 h3 h6 h7
          go_wp2
          go_roundw
          case rel => exact ⟨k + 1, 0, os, by omega, by omega, by omega, by go_num, rfl, HX, hown1, b1⟩
          case measure => simp [intOf]; omega
      · have HX := Lib.hid (show posG l 0 = os ++ posG (l.drop (k + 1)) (n + prtN a.op) by rw [HS.out, HD.out]; rfl)
        clear HS HD hcl HCL
        have hn0 : (0 : Int) < ((n + 1 : Nat) : Int) := by omega
        by_cases h8 : a.op = 8
        · have HX := Lib.hid (show posG l 0 = os ++ posG (l.drop (k + 1)) (n + 1) by rw [HX.out, h8]; rfl)
          have e8 : (a.op == 8) = true := by rw [h8]; rfl
          have hw1 : IntKind.i64.wrap ((1 : Int) - 1) = 0 := by decide
          have hw2 : IntKind.i64.wrap (((n + 1 : Nat) : Int) + 0) = ((n + 1 : Nat) : Int) := by rw [IntWalk.i64_in _ (by omega)]; omega
          clear h8 HP
          go_wp2
          go_roundw
          case rel => exact ⟨k + 1, n + 1, os, by omega, by omega, by omega, by go_num, by first | rfl | go_num, HX, hown1, b1⟩
          case measure => simp [intOf]; omega
        · have e8 : (a.op == 8) = false := by simp [h8]
          by_cases h6 : a.op = 6
          · have HX := Lib.hid (show posG l 0 = os ++ posG (l.drop (k + 1)) (n + 2) by rw [HX.out, h6]; rfl)
            have e6 : (a.op == 6) = true := by rw [h6]; rfl
            have hw1 : IntKind.i64.wrap ((2 : Int) - 1) = 1 := by decide
            have hw2 : IntKind.i64.wrap (((n + 1 : Nat) : Int) + 1) = ((n + 2 : Nat) : Int) := by rw [IntWalk.i64_in _ (by omega)]; omega
            clear h8 h6 HP
            go_wp2
            go_roundw
            case rel => exact ⟨k + 1, n + 2, os, by omega, by omega, by omega, by go_num, by first | rfl | go_num, HX, hown1, b1⟩
            case measure => simp [intOf]; omega
          · have e6 : (a.op == 6) = false := by simp [h6]
            by_cases h7 : a.op = 7
            · have HX := Lib.hid (show posG l 0 = os ++ posG (l.drop (k + 1)) (n + 2) by rw [HX.out, h7]; rfl)
              have e7 : (a.op == 7) = true := by rw [h7]; rfl
              have hw1 : IntKind.i64.wrap ((2 : Int) - 1) = 1 := by decide
              have hw2 : IntKind.i64.wrap (((n + 1 : Nat) : Int) + 1) = ((n + 2 : Nat) : Int) := by rw [IntWalk.i64_in _ (by omega)]; omega
              clear h8 h6 h7 HP
              go_wp2
              go_roundw
              case rel => exact ⟨k + 1, n + 2, os, by omega, by omega, by omega, by go_num, by first | rfl | go_num, HX, hown1, b1⟩
              case measure => simp [intOf]; omega
            · have e7 : (a.op == 7) = false := by simp [h7]
              have HX := Lib.hid (show posG l 0 = os ++ posG (l.drop (k + 1)) n by rw [HX.out, HP.out, if_neg (by omega), if_neg h8]; rfl)
              have hw1 : IntKind.i64.wrap ((0 : Int) - 1) = -1 := by decide
              have hw2 : IntKind.i64.wrap (((n + 1 : Nat) : Int) + -1) = ((n : Nat) : Int) := by rw [IntWalk.i64_in _ (by omega)]; omega
              clear h8 h6 h7 HP
              go_wp2
              go_roundw
              case rel => exact ⟨k + 1, n, os, by omega, by omega, by omega, by go_num, by first | rfl | go_num, HX, hown1, b1⟩
              case measure => simp [intOf]; omega
    · have hki : ¬ (k : Int) < (l.length : Int) := by omega
      have HX := Lib.hid (show posG l 0 = os by rw [HS.out, List.drop_of_length_le (by omega)]; simp [posG])
      have HO := Lib.hid hown
      clear hown HS
      go_wp2
      go_ret
      exact ⟨_, rfl, by rw [HX.out]; exact HO.out, bw⟩
end Go.Proofs.YtngodakkdhdmjaaGreatDoor
