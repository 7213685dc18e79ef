/- The program's Check on postings. -/
import Derived.Test.YtngodakkdhdmjaaGreatDoorWdQ
import Derived.Test.YtngodakkdhdmjaaGreatDoorRgs
import Derived.Test.YtngodakkdhdmjaaGreatDoorLib
namespace Go.Proofs.YtngodakkdhdmjaaGreatDoor
open Go.RowKit

abbrev pstC (p : Post) : Obj := .cells #[.string p.word, .int .i64 p.unit, .int .i64 p.field, .int .i64 p.place] 36
abbrev pstV (p : Post) : Value := .agg #[.string p.word, .int .i64 p.unit, .int .i64 p.field, .int .i64 p.place]
theorem all_at {n : ByteArray} {k : Nat} (h : k < n.size) (f : UInt8 → Bool) : (n.data.toList.drop k).all f = (f n[k] && (n.data.toList.drop (k + 1)).all f) := by
  rw [index_nat n k h, getD_nat n k h, List.all_cons]
set_option maxRecDepth 100000 in
set_option maxHeartbeats 4000000 in
theorem valid_c (p : Post) (w : World) (hs : p.word.size ≤ 1000000) :
    Calls Tryz.prog 108 #[pstV p] w fun e w' => e = .returned (.bool (rightP p)) ∧ Below w.heap.size w w' := by
  have hb : ∀ o, Below w.heap.size w (w.alloc o) := fun o => (Below.refl _ _).alloc (Nat.le_refl _) o
  have H0 := Lib.hid (show p.word.data.toList.all plnB = (p.word.data.toList.drop 0).all plnB from rfl)
  go_enter Tryz.func108, Tryz.ntmps108
  go_wp2
  go_loop [8] (fun i => ∃ k : Nat, k ≤ p.word.size ∧ i = .int .i64 k ∧ Hid (p.word.data.toList.all plnB = (p.word.data.toList.drop k).all plnB)) (fun i => p.word.size - (intOf i).toNat)
  case atStart => exact ⟨0, Nat.zero_le _, rfl, H0⟩
  case round =>
    clear H0
    obtain ⟨k, hk, rfl, hh⟩ := hrel
    by_cases hlt : k < p.word.size
    · have hki : (k : Int) < (p.word.size : Int) := by omega
      have hd := all_at hlt plnB
      cases hp : plnB p.word[k]
      · have HE := Lib.hid (show rightP p = false by
          unfold rightP wordB
          rw [hh.out, hd, hp]
          simp)
        have hn : ((p.word[k].toNat : Int) < 97 ∨ 122 < (p.word[k].toNat : Int)) ∧ ((p.word[k].toNat : Int) < 48 ∨ 57 < (p.word[k].toNat : Int)) := by
          unfold plnB at hp
          simp only [Bool.or_eq_false_iff, decide_eq_false_iff_not] at hp
          omega
        clear hd hh hp
        obtain ⟨h1, h2⟩ := hn
        rcases h1 with h1 | h1
        · rcases h2 with h2 | h2
          · go_wp2
            go_ret
            exact ⟨ret_bool HE.out.symm, hb _⟩
          · go_wp2
            go_ret
            exact ⟨ret_bool HE.out.symm, hb _⟩
        · have h3 : ¬ (p.word[k].toNat : Int) < 97 := by omega
          have h4 : ¬ (p.word[k].toNat : Int) < 48 := by omega
          have h5 : 57 < (p.word[k].toNat : Int) := by omega
          clear h2
          go_wp2
          go_ret
          exact ⟨ret_bool HE.out.symm, hb _⟩
      · have HN := Lib.hid (show p.word.data.toList.all plnB = (p.word.data.toList.drop (k + 1)).all plnB by rw [hh.out, hd, hp]; rfl)
        have hn : (97 ≤ (p.word[k].toNat : Int) ∧ (p.word[k].toNat : Int) ≤ 122) ∨ (48 ≤ (p.word[k].toNat : Int) ∧ (p.word[k].toNat : Int) ≤ 57) := by
          unfold plnB at hp
          simp only [Bool.or_eq_true, decide_eq_true_eq] at hp
          omega
        clear hd hh hp
        rcases hn with ⟨h1, h2⟩ | ⟨h1, h2⟩
        · go_wp2
          go_round
          case rel => exact ⟨k + 1, by omega, by go_num, HN⟩
          case measure => simp [intOf]; omega
        · have h3 : (p.word[k].toNat : Int) < 97 := by omega
          have h4 : ¬ (p.word[k].toNat : Int) < 48 := by omega
          have h5 : ¬ 57 < (p.word[k].toNat : Int) := by omega
          clear h1 h2
          go_wp2
          go_round
          case rel => exact ⟨k + 1, by omega, by go_num, HN⟩
          case measure => simp [intOf]; omega
    · have HE := Lib.hid (show rightP p = (decide (p.word.size ≠ 0) && decide (p.word.size ≤ 4096) && decide (1 ≤ p.unit) && decide (p.unit ≤ 1073741824) && decide (-1 ≤ p.field) && decide (p.field ≠ 0) && decide (p.field ≤ 64) && decide (0 ≤ p.place) && decide (p.place ≤ 4096)) by
        unfold rightP wordB
        rw [hh.out, List.drop_of_length_le (by rw [Array.length_toList]; show p.word.size ≤ k; omega)]
        simp)
      clear hh
      have hsz : (p.word.toList.isEmpty) = decide (p.word.size = 0) := str_empty _
      by_cases hz : p.word.size = 0
      · rw [decide_eq_true hz] at hsz
        go_wp2
        all_goals
          go_ret
          refine ⟨ret_bool ?_, hb _⟩
          rw [HE.out]
          clear HE
          rw [Bool.eq_iff_iff]
          simp only [Bool.and_eq_true, decide_eq_true_eq, Bool.false_eq_true, false_iff, ne_eq]
          omega
      · rw [decide_eq_false hz] at hsz
        go_wp2
        all_goals
          go_ret
          refine ⟨ret_bool ?_, hb _⟩
          rw [HE.out]
          clear HE
          rw [Bool.eq_iff_iff]
          simp only [Bool.and_eq_true, decide_eq_true_eq, Bool.false_eq_true, false_iff, ne_eq]
          omega
def orF : List Int → Int
  | [] => 0
  | x :: r => if x ≠ 0 then x else orF r
theorem orN_c (xs : List Int) (v : Value) (w : World) (F : Nat → Prop) (hF : ∀ b, F b → b < w.heap.size) (h : SlRep 1 (flat intEnc) w F xs v) :
    Calls Tryz.prog 42 #[v] w fun e w' => e = .returned (.int .i64 (orF xs)) ∧ w = w' := by
  obtain ⟨A, c, rfl, hc1, hc2, _⟩ := id h
  have H0 := Lib.hid (show orF xs = orF (xs.drop 0) from rfl)
  go_enter Tryz.func42, Tryz.ntmps42
  go_wp2
  go_loop [8] (fun i => ∃ k : Nat, k ≤ xs.length ∧ i = .int .i64 k ∧ Hid (orF xs = orF (xs.drop k))) (fun i => xs.length - (intOf i).toNat)
  case atStart => exact ⟨0, Nat.zero_le _, rfl, H0⟩
  case round =>
    clear H0
    obtain ⟨k, hk, rfl, hh⟩ := hrel
    by_cases hlt : k < xs.length
    · obtain ⟨x, hx⟩ := get_at xs hlt
      obtain ⟨b, off, rfl, hbB, g0⟩ := Ints.at_ h hx
      have hbw := hF b hbB
      have hki : (k : Int) < (xs.length : Int) := by omega
      have hd := drop_at hx
      by_cases hz : x = 0
      · have HN := Lib.hid (show orF xs = orF (xs.drop (k + 1)) by rw [hh.out, hd, orF, if_neg (by simpa using hz)])
        have hz1 : (x != 0) = false := by simp [hz]
        clear hd hh hx hz
        go_wp2
        go_round
        case rel => exact ⟨k + 1, by omega, by go_num, HN⟩
        case measure => simp [intOf]; omega
      · have HE := Lib.hid (show orF xs = x by rw [hh.out, hd, orF, if_pos hz])
        have hz1 : (x != 0) = true := by simp [hz]
        clear hd hh hx hz
        go_wp2
        go_ret
        exact ⟨ret_int HE.out.symm, rfl⟩
    · have HE := Lib.hid (show orF xs = 0 by rw [hh.out, List.drop_of_length_le (by omega)]; rfl)
      clear hh
      go_wp2
      go_ret
      exact ⟨ret_int HE.out.symm, rfl⟩
theorem sl_new4 (W : World) (a b c d : Int) : SlRep 1 (flat intEnc) (W.alloc (.cells #[.int .i64 a, .int .i64 b, .int .i64 c, .int .i64 d] 3)) (fun b => b = W.heap.size) [a, b, c, d] (.slice (some ⟨W.heap.size, 0, none⟩) 4 4) := by
  refine ⟨_, 4, rfl, Nat.le_refl _, by omega, fun i x hx => ⟨W.heap.size, 0, intEnc x, rfl, rfl, rfl, fun j u hu => ?_⟩⟩
  have hi := lt_of_at hx
  simp only [List.length_cons, List.length_nil] at hi
  have hj : j = 0 := by have := lt_of_at hu; simp [intEnc] at this; exact this
  subst hj
  simp [intEnc] at hu
  subst hu
  rcases (by omega : i = 0 ∨ i = 1 ∨ i = 2 ∨ i = 3) with rfl | rfl | rfl | rfl <;> simp at hx <;> subst hx <;> simp
def pcmp (a b : Post) : Int := orF [cmpS a.word b.word, cmpI a.unit b.unit, cmpI a.field b.field, cmpI a.place b.place]
theorem cmpI_zero {a b : Int} : cmpI a b = 0 ↔ a = b := by
  unfold cmpI
  split
  · constructor <;> intro h <;> omega
  · split
    · constructor <;> intro h <;> omega
    · constructor <;> intro h <;> omega
theorem cmpI_neg {a b : Int} : cmpI a b < 0 ↔ a < b := by
  unfold cmpI
  split
  · constructor <;> intro h <;> omega
  · split
    · constructor <;> intro h <;> omega
    · constructor <;> intro h <;> omega
theorem cmpS_zero {a b : ByteArray} : cmpS a b = 0 ↔ a = b := by
  unfold cmpS
  split
  · rename_i h
    constructor
    · intro e; omega
    · intro e; rw [e, lessB_irrefl] at h; cases h
  · split
    · rename_i h; exact ⟨fun _ => h, fun _ => rfl⟩
    · rename_i h; exact ⟨fun e => by omega, fun e => absurd e h⟩
theorem cmpS_neg {a b : ByteArray} : cmpS a b < 0 ↔ lessB a b = true := by
  unfold cmpS
  split
  · rename_i h; exact ⟨fun _ => h, fun _ => by omega⟩
  · rename_i h
    split
    · exact ⟨fun e => by omega, fun e => absurd e h⟩
    · exact ⟨fun e => by omega, fun e => absurd e h⟩
theorem pcmp_neg (a b : Post) : pcmp a b < 0 ↔ pltB a b = true := by
  rw [pltB_iff]
  unfold pcmp
  simp only [orF]
  by_cases h1 : cmpS a.word b.word = 0
  · have e1 := cmpS_zero.1 h1
    have n1 : ¬ lessB a.word b.word = true := by rw [e1, lessB_irrefl]; simp
    rw [if_neg (by simpa using h1)]
    by_cases h2 : cmpI a.unit b.unit = 0
    · have e2 := cmpI_zero.1 h2
      rw [if_neg (by simpa using h2)]
      by_cases h3 : cmpI a.field b.field = 0
      · have e3 := cmpI_zero.1 h3
        rw [if_neg (by simpa using h3)]
        by_cases h4 : cmpI a.place b.place = 0
        · have e4 := cmpI_zero.1 h4
          rw [if_neg (by simpa using h4)]
          constructor
          · intro h; omega
          · rintro (h | ⟨-, h⟩)
            · exact absurd h n1
            · omega
        · rw [if_pos h4, cmpI_neg]
          constructor
          · intro h; exact .inr ⟨e1, by omega⟩
          · rintro (h | ⟨-, h⟩)
            · exact absurd h n1
            · omega
      · have e3 : a.field ≠ b.field := fun e => h3 (cmpI_zero.2 e)
        rw [if_pos h3, cmpI_neg]
        constructor
        · intro h; exact .inr ⟨e1, by omega⟩
        · rintro (h | ⟨-, h⟩)
          · exact absurd h n1
          · omega
    · have e2 : a.unit ≠ b.unit := fun e => h2 (cmpI_zero.2 e)
      rw [if_pos h2, cmpI_neg]
      constructor
      · intro h; exact .inr ⟨e1, by omega⟩
      · rintro (h | ⟨-, h⟩)
        · exact absurd h n1
        · omega
  · have e1 : a.word ≠ b.word := fun e => h1 (cmpS_zero.2 e)
    rw [if_pos h1, cmpS_neg]
    constructor
    · intro h; exact .inl h
    · rintro (h | ⟨h, -⟩)
      · exact h
      · exact absurd h e1
theorem pcmp_swap (a b : Post) : (0 ≤ pcmp a b) ↔ pltB a b = false := by
  have := pcmp_neg a b
  cases h : pltB a b
  · rw [h] at this
    simp at this
    simpa using this
  · rw [h] at this
    simp at this
    simp
    omega
set_option maxRecDepth 100000 in
set_option maxHeartbeats 4000000 in
theorem compare_c (a b : Post) (w : World) :
    Calls Tryz.prog 59 #[pstV a, pstV b] w fun e w' => e = .returned (.int .i64 (pcmp a b)) ∧ ∃ o1 o2 o3, w' = (((w.alloc o1).alloc o2).alloc o3).drew := by
  have HE := Lib.hid (show pcmp a b = orF [cmpS a.word b.word, cmpI a.unit b.unit, cmpI a.field b.field, cmpI a.place b.place] from rfl)
  generalize pcmp a b = z at *
  have HCS := Lib.hid (fun (W : World) => cmpS_c a.word b.word W)
  have HC1 := Lib.hid (fun (W : World) => cmpI_c a.unit b.unit W)
  have HC2 := Lib.hid (fun (W : World) => cmpI_c a.field b.field W)
  have HC3 := Lib.hid (fun (W : World) => cmpI_c a.place b.place W)
  generalize cmpS a.word b.word = y0 at *
  generalize cmpI a.unit b.unit = y1 at *
  generalize cmpI a.field b.field = y2 at *
  generalize cmpI a.place b.place = y3 at *
  have HOR := Lib.hid (fun (W : World) (g : Nat) (hg : W.heap.size = g) => orN_c [y0, y1, y2, y3] (.slice (some ⟨g, 0, none⟩) 4 4) (W.alloc (.cells #[.int .i64 y0, .int .i64 y1, .int .i64 y2, .int .i64 y3] 3)).drew (fun b => b = g) (fun b hb => by subst hb hg; show _ < (World.alloc _ _).heap.size; simp) ((hg ▸ sl_new4 W y0 y1 y2 y3 : SlRep 1 (flat intEnc) (W.alloc (.cells #[.int .i64 y0, .int .i64 y1, .int .i64 y2, .int .i64 y3] 3)) (fun b => b = g) [y0, y1, y2, y3] (.slice (some ⟨g, 0, none⟩) 4 4)).frame intS (fun _ _ => rfl)))
  go_enter Tryz.func59, Tryz.ntmps59
  go_wp2
  go_region_held3 (fun w' => w'.cell? ⟨w.heap.size, 0, none⟩ = some (.string a.word) ∧ w'.cell? ⟨w.heap.size, 1, none⟩ = some (.int .i64 a.unit) ∧ w'.cell? ⟨w.heap.size, 2, none⟩ = some (.int .i64 a.field) ∧ w'.cell? ⟨w.heap.size, 3, none⟩ = some (.int .i64 a.place) ∧ w'.cell? ⟨w.heap.size + 1, 0, none⟩ = some (.string b.word) ∧ w'.cell? ⟨w.heap.size + 1, 1, none⟩ = some (.int .i64 b.unit) ∧ w'.cell? ⟨w.heap.size + 1, 2, none⟩ = some (.int .i64 b.field) ∧ w'.cell? ⟨w.heap.size + 1, 3, none⟩ = some (.int .i64 b.place)) (simp [go_sem, World.cell?_alloc_past])
    (first
      | (go_at_call 44; (with_reducible refine (HCS.out _).mono ?_); rintro e w' ⟨rfl, rfl⟩)
      | (go_at_call 43; (with_reducible refine (HC1.out _).mono ?_); rintro e w' ⟨rfl, rfl⟩)
      | (go_at_call 43; (with_reducible refine (HC2.out _).mono ?_); rintro e w' ⟨rfl, rfl⟩)
      | (go_at_call 43; (with_reducible refine (HC3.out _).mono ?_); rintro e w' ⟨rfl, rfl⟩)
      | (go_at_call 42; (with_reducible refine Calls.mono (HOR.out _ _ ?_) ?_); (· (show (World.heap _).size = _; (first | (simp; done) | (simp [World.drew]; done)))); rintro e w' ⟨rfl, rfl⟩))
  all_goals (go_wp2; go_ret; exact ⟨ret_int HE.out.symm, _, _, _, rfl⟩)

theorem compare_b (a b : Post) (w : World) :
    Calls Tryz.prog 59 #[pstV a, pstV b] w fun e w' => e = .returned (.int .i64 (pcmp a b)) ∧ Below w.heap.size w w' :=
  (compare_c a b w).mono fun e w' ⟨h1, o1, o2, o3, h2⟩ => ⟨h1, by
    subst h2
    exact ((((Below.refl _ _).alloc (Nat.le_refl _) o1).alloc (by simp) o2).alloc (by simp; omega) o3).drew⟩
/-- the posting before a place -/
def prevP (l : List Post) (k : Nat) : Option Post := if k = 0 then none else l[k - 1]?
theorem prevP_succ {l : List Post} {k : Nat} {x : Post} (h : l[k]? = some x) : prevP l (k + 1) = some x := by
  unfold prevP
  rw [if_neg (by omega), Nat.add_sub_cancel]
  exact h
theorem chkG_at {l : List Post} {k : Nat} {x : Post} (h : l[k]? = some x) : chkG (prevP l k) (l.drop k) = if rightP x = false then 1 else if ((prevP l k).any fun q => !pltB q x) = true then 5 else chkG (prevP l (k + 1)) (l.drop (k + 1)) := by
  rw [drop_at h, prevP_succ h, chkG]
set_option maxRecDepth 100000 in
set_option maxHeartbeats 4000000 in
theorem icheck_c (l : List Post) (v : Value) (w : World) (B : Nat) (hB : B ≤ w.heap.size) (h : Posts w B l v) (hw : ∀ p ∈ l, p.word.size ≤ 1000000) :
    Calls Tryz.prog 67 #[v] w fun e w' => e = .returned (.int .i64 (chkL l)) ∧ Below w.heap.size w w' := by
  obtain ⟨A, c, rfl, hc1, hc2, _⟩ := id h
  by_cases hbig : l.length ≤ 65536
  · have H0 := Lib.hid (show chkL l = chkG (prevP l 0) (l.drop 0) by unfold chkL; rw [if_neg (by omega)]; rfl)
    have hbg : ¬ (65536 : Int) < (l.length : Int) := by omega
    go_enter Tryz.func67, Tryz.ntmps67
    go_wp2
    go_loopw [10] (fun i wr => ∃ k : Nat, k ≤ l.length ∧ i = .int .i64 k ∧ Hid (chkL l = chkG (prevP l k) (l.drop k)) ∧ Below w.heap.size w wr) (fun i _ => l.length - (intOf i).toNat)
    case atStart => exact ⟨0, Nat.zero_le _, rfl, H0, Below.refl _ _⟩
    case round =>
      clear H0
      obtain ⟨k, hk, rfl, hh, hb⟩ := hrel
      by_cases hlt : k < l.length
      · obtain ⟨x, hx⟩ := get_at l hlt
        have hbs := hb.size
        have hxw := hw x (List.mem_of_getElem? hx)
        have HV := Lib.hid (fun (W : World) => valid_c x W hxw)
        have hat := chkG_at hx
        obtain ⟨b, off, rfl, hbB, g0, g1, g2, g3⟩ := Posts.at_ (h.below pstS (hb.mono hB)) hx
        have hbw : b < wr.heap.size := by have : b < B := hbB; omega
        have hki : (k : Int) < (l.length : Int) := by omega
        have b1 : Below w.heap.size w (wr.alloc (pstC x)) := hb.alloc hbs _
        cases hr : rightP x
        · have HE := Lib.hid (show chkL l = 1 by rw [hh.out, hat, if_pos hr])
          rw [hr] at HV
          clear hat hh hx
          go_wp2_with fail
          refine (HV.out _).mono ?_
          rintro e w1 ⟨rfl, hb1⟩
          go_wp2
          go_ret
          exact ⟨ret_int HE.out.symm, b1.trans (hb1.mono (by simp; omega))⟩
        · rw [hr] at HV
          rw [if_neg (by rw [hr]; simp)] at hat
          by_cases hz : k = 0
          · subst hz
            have HN := Lib.hid (show chkL l = chkG (prevP l (0 + 1)) (l.drop (0 + 1)) by rw [hh.out, hat, if_neg (by simp [prevP])])
            simp only [Nat.zero_mul, Nat.add_zero] at g0 g1 g2 g3
            clear hat hh hx
            go_wp2_with fail
            refine (HV.out _).mono ?_
            rintro e w1 ⟨rfl, hb1⟩
            go_wp2
            go_quiet (fail)
            go_wp2
            go_roundw
            case rel => exact ⟨1, by omega, rfl, HN, (b1.trans (hb1.mono (by simp; omega))).trans (below_of_drew _ ⟨_, rfl⟩)⟩
            case measure => simp [intOf]; omega
          · obtain ⟨q, hq⟩ := get_at l (show k - 1 < l.length by omega)
            have hpv : prevP l k = some q := by unfold prevP; rw [if_neg hz]; exact hq
            have HQ := Lib.hid (fun (W : World) (hW : Below w.heap.size w W) => Posts.at_ (h.below pstS (hW.mono hB)) hq)
            have HCM := Lib.hid (fun (W : World) => compare_b q x W)
            obtain ⟨j, rfl⟩ : ∃ j, k = j + 1 := ⟨k - 1, by omega⟩
            rw [Nat.add_sub_cancel] at HQ hq
            have hsw := pcmp_swap q x
            generalize pcmp q x = z at *
            clear hz
            have hz1 : (0 : Int) < (j : Int) + 1 := by omega
            have hz3 : (j : Int) < (l.length : Int) := by omega
            have hz4 : (0 : Int) ≤ (j : Int) := by omega
            have hz5 : IntKind.i64.wrap (j : Int) = (j : Int) := IntWalk.i64_in _ (by omega)
            have hz6 : IntKind.i64.wrap ((j : Int) + 1 - 1) = (j : Int) := by rw [IntWalk.i64_in _ (by omega)]; omega
            go_wp2_with fail
            refine (HV.out _).mono ?_
            rintro e w1 ⟨rfl, hb1⟩
            have b2 := b1.trans (hb1.mono (by simp; omega))
            have y0 : w1.cell? ⟨wr.heap.size, 0, none⟩ = some (.string x.word) := (hb1.cell (p := ⟨wr.heap.size, 0, none⟩) (by simp)).trans (by simp)
            have y1 : w1.cell? ⟨wr.heap.size, 1, none⟩ = some (.int .i64 x.unit) := (hb1.cell (p := ⟨wr.heap.size, 1, none⟩) (by simp)).trans (by simp)
            have y2 : w1.cell? ⟨wr.heap.size, 2, none⟩ = some (.int .i64 x.field) := (hb1.cell (p := ⟨wr.heap.size, 2, none⟩) (by simp)).trans (by simp)
            have y3 : w1.cell? ⟨wr.heap.size, 3, none⟩ = some (.int .i64 x.place) := (hb1.cell (p := ⟨wr.heap.size, 3, none⟩) (by simp)).trans (by simp)
            have yl : wr.heap.size < w1.heap.size := by have := hb1.size; simp at this; omega
            obtain ⟨_, _, e9, hbB2, p0, p1, p2, p3⟩ := HQ.out _ b2
            cases e9
            have hbw2 : b < w1.heap.size := by omega
            clear g0 g1 g2 g3 hx hq
            have hbX : Below w1.heap.size w1 w1.drew := (Below.refl _ _).drew
            have KEEP := Lib.hid (fun (W : World) (hW : Below w1.heap.size w1 W) => (⟨(hW.cell (p := ⟨wr.heap.size, 0, none⟩) yl).trans y0, (hW.cell (p := ⟨wr.heap.size, 1, none⟩) yl).trans y1, (hW.cell (p := ⟨wr.heap.size, 2, none⟩) yl).trans y2, (hW.cell (p := ⟨wr.heap.size, 3, none⟩) yl).trans y3, (hW.cell (p := ⟨b, off + j * 4, none⟩) hbw2).trans p0, (hW.cell (p := ⟨b, off + j * 4 + 1, none⟩) hbw2).trans p1, (hW.cell (p := ⟨b, off + j * 4 + 2, none⟩) hbw2).trans p2, (hW.cell (p := ⟨b, off + j * 4 + 3, none⟩) hbw2).trans p3⟩ : W.cell? ⟨wr.heap.size, 0, none⟩ = some (.string x.word) ∧ W.cell? ⟨wr.heap.size, 1, none⟩ = some (.int .i64 x.unit) ∧ W.cell? ⟨wr.heap.size, 2, none⟩ = some (.int .i64 x.field) ∧ W.cell? ⟨wr.heap.size, 3, none⟩ = some (.int .i64 x.place) ∧ W.cell? ⟨b, off + j * 4, none⟩ = some (.string q.word) ∧ W.cell? ⟨b, off + j * 4 + 1, none⟩ = some (.int .i64 q.unit) ∧ W.cell? ⟨b, off + j * 4 + 2, none⟩ = some (.int .i64 q.field) ∧ W.cell? ⟨b, off + j * 4 + 3, none⟩ = some (.int .i64 q.place)))
            have HB2 := Lib.hid b2
            have hl1 : w.heap.size ≤ w1.heap.size := by omega
            go_wp2
            cases hlt2 : pltB q x
            · have HE := Lib.hid (show chkL l = 5 by rw [hh.out, hat, hpv, if_pos (by simp [hlt2])])
              rw [hlt2] at hsw
              have hzz : (0 : Int) ≤ z := hsw.2 rfl
              clear hat hh hlt2 hsw hpv
              go_region_held3 (fun W => W.cell? ⟨wr.heap.size, 0, none⟩ = some (.string x.word) ∧ W.cell? ⟨wr.heap.size, 1, none⟩ = some (.int .i64 x.unit) ∧ W.cell? ⟨wr.heap.size, 2, none⟩ = some (.int .i64 x.field) ∧ W.cell? ⟨wr.heap.size, 3, none⟩ = some (.int .i64 x.place) ∧ W.cell? ⟨b, off + j * 4, none⟩ = some (.string q.word) ∧ W.cell? ⟨b, off + j * 4 + 1, none⟩ = some (.int .i64 q.unit) ∧ W.cell? ⟨b, off + j * 4 + 2, none⟩ = some (.int .i64 q.field) ∧ W.cell? ⟨b, off + j * 4 + 3, none⟩ = some (.int .i64 q.place)) (with_reducible exact KEEP.out _ hbX) (first
                | (go_at_call 59; (with_reducible refine (HCM.out _).mono ?_); rintro e w2 ⟨rfl, hb2⟩; have hbX := bnd_call hbX (Nat.le_refl _) hb2))
              go_wp2
              go_ret
              exact ⟨ret_int HE.out.symm, HB2.out.trans (hbX.mono hl1)⟩
            · have HN := Lib.hid (show chkL l = chkG (prevP l (j + 1 + 1)) (l.drop (j + 1 + 1)) by rw [hh.out, hat, hpv, if_neg (by simp [hlt2])])
              rw [hlt2] at hsw
              have hzz : z < 0 := by
                have := hsw.1
                simp at this
                omega
              clear hat hh hlt2 hsw hpv
              go_region_held3 (fun W => W.cell? ⟨wr.heap.size, 0, none⟩ = some (.string x.word) ∧ W.cell? ⟨wr.heap.size, 1, none⟩ = some (.int .i64 x.unit) ∧ W.cell? ⟨wr.heap.size, 2, none⟩ = some (.int .i64 x.field) ∧ W.cell? ⟨wr.heap.size, 3, none⟩ = some (.int .i64 x.place) ∧ W.cell? ⟨b, off + j * 4, none⟩ = some (.string q.word) ∧ W.cell? ⟨b, off + j * 4 + 1, none⟩ = some (.int .i64 q.unit) ∧ W.cell? ⟨b, off + j * 4 + 2, none⟩ = some (.int .i64 q.field) ∧ W.cell? ⟨b, off + j * 4 + 3, none⟩ = some (.int .i64 q.place)) (with_reducible exact KEEP.out _ hbX) (first
                | (go_at_call 59; (with_reducible refine (HCM.out _).mono ?_); rintro e w2 ⟨rfl, hb2⟩; have hbX := bnd_call hbX (Nat.le_refl _) hb2))
              go_wp2
              go_roundw
              case rel => exact ⟨j + 1 + 1, by omega, by go_num, HN, HB2.out.trans (hbX.mono hl1)⟩
              case measure => simp [intOf]; omega
      · have HE := Lib.hid (show chkL l = 0 by rw [hh.out, List.drop_of_length_le (by omega)]; rfl)
        clear hh
        go_wp2
        go_ret
        exact ⟨ret_int HE.out.symm, hb⟩
  · have HE := Lib.hid (show chkL l = 8 by unfold chkL; rw [if_pos (by omega)])
    have hbg : (65536 : Int) < (l.length : Int) := by omega
    go_enter Tryz.func67, Tryz.ntmps67
    go_wp2
    go_ret
    exact ⟨ret_int HE.out.symm, Below.refl _ _⟩
end Go.Proofs.YtngodakkdhdmjaaGreatDoor
