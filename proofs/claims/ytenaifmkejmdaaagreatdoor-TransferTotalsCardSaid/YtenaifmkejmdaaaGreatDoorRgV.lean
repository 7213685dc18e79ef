/- The reference: Divide. -/
import Derived.Test.YtenaifmkejmdaaaGreatDoorLwC
import Derived.Test.YtenaifmkejmdaaaGreatDoorPrQ
namespace Go.Proofs.YtenaifmkejmdaaaGreatDoor
open Go.RowKit

/-- what the loop of the reference's Divide holds behind k items -/
structure DvS (l : TL) (p : Int) (k : Nat) (out : List Int) (sum : Int) : Prop where
  st : ∃ (D : List Int) (m : Nat), out = D ++ (if m = 0 then [] else [(m : Int)]) ∧ (k = 0 ↔ m = 0) ∧ m ≤ k ∧ partG p 0 0 l.items = D ++ partG p m sum (l.items.drop k)
  ok : ∀ x ∈ l.items.take k, x.pages ≤ p
  len : out.length ≤ k
  sum0 : 0 ≤ sum
  sum1 : sum ≤ p
  sumz : k = 0 → sum = 0
theorem DvS.zero {l : TL} {p : Int} (hp : 0 ≤ p) : DvS l p 0 [] 0 := ⟨⟨[], 0, rfl, by simp, Nat.le_refl _, rfl⟩, by simp, by simp, Int.le_refl _, hp, fun _ => rfl⟩
theorem take_ok {l : TL} {p : Int} {k : Nat} {x : Item} (h : ∀ x ∈ l.items.take k, x.pages ≤ p) (hx : l.items[k]? = some x) (hp : x.pages ≤ p) : ∀ y ∈ l.items.take (k + 1), y.pages ≤ p := by
  intro y hy
  rw [take_at hx, List.mem_append] at hy
  rcases hy with hy | hy
  · exact h y hy
  · simp at hy; rw [hy]; exact hp
theorem DvS.new {l : TL} {p : Int} {k : Nat} {out : List Int} {sum : Int} {x : Item} (h : DvS l p k out sum) (hx : l.items[k]? = some x) (h0 : 1 ≤ x.pages) (hp : x.pages ≤ p) (hc : k = 0 ∨ p < sum + x.pages) : DvS l p (k + 1) (out ++ [1]) x.pages := by
  obtain ⟨⟨D, m, e1, e2, e3, e4⟩, h2, h3, h4, h5, h6⟩ := h
  refine ⟨⟨out, 1, by simp, by simp, by omega, ?_⟩, take_ok h2 hx hp, by simp; omega, by omega, hp, by omega⟩
  rw [e4, drop_at hx, partG]
  by_cases hm : m = 0
  · subst hm
    have hk := e2.2 rfl
    rw [if_neg (by omega), e1, h6 hk]
    simp
  · have hk : k ≠ 0 := fun e => hm (e2.1 e)
    rw [if_pos ⟨by omega, hc.resolve_left hk⟩, e1, if_neg hm]
    simp
theorem DvS.more {l : TL} {p : Int} {k : Nat} {out : List Int} {sum : Int} {x : Item} (h : DvS l p k out sum) (hx : l.items[k]? = some x) (h0 : 1 ≤ x.pages) (hp : x.pages ≤ p) (hk : k ≠ 0) (hc : ¬ p < sum + x.pages) : ∃ (q : Nat) (m : Nat), out.length = q + 1 ∧ out[q]? = some (m : Int) ∧ m ≤ k ∧ DvS l p (k + 1) (out.set q ((m : Int) + 1)) (sum + x.pages) := by
  obtain ⟨⟨D, m, e1, e2, e3, e4⟩, h2, h3, h4, h5, h6⟩ := h
  have hm : m ≠ 0 := fun e => hk (e2.2 e)
  rw [if_neg hm] at e1
  subst e1
  refine ⟨D.length, m, by simp, by simp, e3, ⟨D, m + 1, ?_, by simp, by omega, ?_⟩, take_ok h2 hx hp, by simp at h3 ⊢; omega, by omega, by omega, by omega⟩
  · rw [if_neg (by omega), List.set_append_right _ _ (Nat.le_refl _)]
    simp
  · rw [e4, drop_at hx, partG, if_neg (fun e => hc e.2)]
theorem DvS.done {l : TL} {p : Int} {out : List Int} {sum : Int} (h : DvS l p l.items.length out sum) : out = partG p 0 0 l.items := by
  obtain ⟨⟨D, m, e1, e2, e3, e4⟩, -, -, -, -, -⟩ := h
  rw [e4, List.drop_length, partG, e1]
  by_cases hm : m = 0
  · rw [if_pos hm, if_neg (by omega)]
  · rw [if_neg hm, if_pos (by omega)]
theorem own_frz {e : TypeId} {base g q cap : Nat} {w : World} {xs : List Int} (h : OwnRep 1 (flat intEnc) e base w xs (.slice (some ⟨g, 0, none⟩) q cap)) (i : Nat) : w.frozen? ⟨g, i, none⟩ = false := by
  rcases h.rows.2 with ⟨h0, _⟩ | ⟨g', cap', cur, hv, hbg, hg, -, -, -, -⟩
  · cases h0
  · injection hv with hv1
    injection hv1 with hv1
    injection hv1 with hv1
    subst hv1
    exact Lib.frozen_of_heap hg i
theorem own_ptr {e : TypeId} {α : Type} {k n : Nat} {R : CRep α} {base : Nat} {w : World} {xs : List α} {v : Value} (h : OwnRep k R e base w xs v) (hn : xs.length = n) (hne : 0 < n) : ∃ g cap, v = .slice (some ⟨g, 0, none⟩) n cap ∧ base ≤ g ∧ g < w.heap.size ∧ n ≤ cap ∧ cap ≤ 9223372036854775807 := by
  subst hn
  have hlt := h.own_lt
  obtain ⟨css, hl, hr, hrow⟩ := h
  rcases hrow.2 with ⟨_, h0⟩ | ⟨g, cap, cur, rfl, hbg, hg, hcap, hm, hs, ht⟩
  · omega
  · exact ⟨g, cap, rfl, (hlt g rfl).1, (hlt g rfl).2, hcap, by unfold maxLen at hm; omega⟩
set_option maxRecDepth 100000 in
set_option maxHeartbeats 8000000 in
theorem rdivide_c (l : TL) (v : Value) (p : Int) (w : World) (B : Nat) (hB : B ≤ w.heap.size) (h : TLRep w B l v) :
    Calls Tryz.prog 14 #[tlV l v, .int .i64 p] w fun e w' => divR l p w e w' := by
  have b0 : Below w.heap.size w (w.alloc (tlC l v)) := (Below.refl _ _).alloc (Nat.le_refl _) _
  have hb0 : Below (w.heap.size + 1) (w.alloc (tlC l v)) (w.alloc (tlC l v)) := Below.refl _ _
  have KC := Lib.hid (fun (W : World) (hW : Below (w.heap.size + 1) (w.alloc (tlC l v)) W) => tlW_at hW)
  have HR := Lib.hid (rright_c l v (w.alloc (tlC l v)) B (Nat.le_trans hB b0.size) (h.below itmS (b0.mono hB)))
  obtain ⟨A, c, rfl, hlc, hcm, -⟩ := id h
  have HIT := Lib.hid (fun (k : Nat) (y : Item) (hy : l.items[k]? = some y) (W : World) (hW : Below w.heap.size w W) => Items.at_ (h.below itmS (hW.mono hB)) hy)
  cases hr : rightB l
  · rw [hr] at HR
    have HX := Lib.hid (div_one (p := p) hr)
    clear hr
    go_enter Tryz.func14, Tryz.ntmps14
    go_wp2_with fail
    refine HR.out.mono ?_
    rintro e w1 ⟨rfl, hb1⟩
    go_wp2
    go_ret2
    exact divR_nil HX.out (b0.trans (hb1.mono (by simp)))
  · rw [hr] at HR
    cases hin : inB p 1 100000
    · have HX := Lib.hid (div_two hr hin)
      have HN := Lib.hid (by have := rin_c p 1 100000; rwa [hin] at this : ∀ W : World, Calls Tryz.prog 38 #[.int .i64 p, .int .i64 1, .int .i64 100000] W fun e w' => e = .returned (.bool false) ∧ W = w')
      clear hr hin
      go_enter Tryz.func14, Tryz.ntmps14
      go_wp2_with fail
      refine HR.out.mono ?_
      rintro e w1 ⟨rfl, hb1⟩
      go_wp2_with fail
      refine (HN.out _).mono ?_
      rintro e w2 ⟨rfl, rfl⟩
      go_wp2
      go_ret2
      exact divR_nil HX.out (b0.trans (hb1.mono (by simp)))
    · have hp := inB_iff.1 hin
      have hok := right_ok hr
      have hlen := hok.len
      have HPG := Lib.hid (fun (k : Nat) (x : Item) (hx : l.items[k]? = some x) => (hok.item x (List.mem_of_getElem? hx)).pages)
      have H15 := Lib.hid (fun (x : Item) (hx : x ∈ l.items) (h : p < x.pages) => div_15 hr hin (List.any_eq_true.2 ⟨x, hx, by simpa using h⟩))
      have HOK := Lib.hid (fun (h : ∀ x ∈ l.items, x.pages ≤ p) => div_ok hr hin (by
        cases he : (l.items.any fun x => decide (p < x.pages)) with
        | false => rfl
        | true =>
          obtain ⟨x, hx, hd⟩ := List.any_eq_true.1 he
          have := h x hx
          simp at hd
          omega))
      have HN := Lib.hid (by have := rin_c p 1 100000; rwa [hin] at this : ∀ W : World, Calls Tryz.prog 38 #[.int .i64 p, .int .i64 1, .int .i64 100000] W fun e w' => e = .returned (.bool true) ∧ W = w')
      have HZ := Lib.hid (DvS.zero (l := l) (p := p) (by omega))
      clear hr hin hok
      go_enter Tryz.func14, Tryz.ntmps14
      go_wp2_with fail
      refine HR.out.mono ?_
      rintro e w1 ⟨rfl, hb1⟩
      have hbX := bnd_call hb0 (by simp) hb1
      go_wp2_with fail
      refine (HN.out _).mono ?_
      rintro e w2 ⟨rfl, rfl⟩
      clear hb1
      go_wp2
      go_loopw [6, 7, 8] (fun o s i wr => ∃ (k : Nat) (out : List Int) (sum : Int) (ov : Value), k ≤ l.items.length ∧ i = .int .i64 k ∧ s = .int .i64 sum ∧ ov = o ∧ Hid (DvS l p k out sum) ∧ OwnRep 1 (flat intEnc) 3 (w.heap.size + 1) wr out ov ∧ Below (w.heap.size + 1) (w.alloc (tlC l (.slice A l.items.length c))) wr) (fun _ _ i _ => l.items.length - (intOf i).toNat)
      case atStart => exact ⟨0, [], 0, _, Nat.zero_le _, rfl, rfl, rfl, HZ, OwnRep.nil_, hbX⟩
      case round =>
        clear HZ
        obtain ⟨k, out, sum, ov, hk, rfl, rfl, rfl, HS, hown, hbr⟩ := hrel
        obtain ⟨Ao, no, co, rfl⟩ : ∃ A n c, ov = .slice A n c := by obtain ⟨A, c, h, -⟩ := hown.toSl intS; exact ⟨A, _, c, h⟩
        have bW := b0.trans (hbr.mono (Nat.le_succ _))
        obtain ⟨z0, z1, z2, z3, zl⟩ := KC.out _ hbr
        have hs1 := HS.out.sum0
        have hs2 := HS.out.sum1
        have hol := HS.out.len
        by_cases hlt : k < l.items.length
        · obtain ⟨x, hx⟩ := get_at l.items hlt
          obtain ⟨b, off, rfl, hbB, g0, g1, g2, g3, g4, g5, g6⟩ := HIT.out k x hx _ bW
          have hbw : b < wr.heap.size := by have : b < B := hbB; have := bW.size; omega
          have hki : (k : Int) < (l.items.length : Int) := by omega
          have hwk : IntKind.i64.wrap ((k : Int) + 1) = (k : Int) + 1 := IntWalk.i64_in _ (by omega)
          have hpg := HPG.out k x hx
          by_cases hbig : p < x.pages
          · have HX := Lib.hid (H15.out x (List.mem_of_getElem? hx) hbig)
            clear hx
            go_wp2
            go_ret2
            exact divR_nil HX.out bW
          · have hx1 : x.pages ≤ p := by omega
            by_cases hc : k = 0 ∨ p < sum + x.pages
            · have HN := Lib.hid (HS.out.new hx hpg.1 hx1 hc)
              obtain ⟨q, hq⟩ : ∃ q, out.length = q := ⟨_, rfl⟩
              have hwq : IntKind.i64.wrap (q : Int) = (q : Int) := IntWalk.i64_in _ (by omega)
              have hwp : IntKind.i64.wrap x.pages = x.pages := IntWalk.i64_in _ (by omega)
              have hws : IntKind.i64.wrap (sum + x.pages) = sum + x.pages := IntWalk.i64_in _ (by omega)
              have hlta := hown.own_lt
              have hqi : (q : Int) < (q : Int) + 1 := by omega
              have hsz := hbr.size
              have hcc : (k = 0 ∧ True) ∨ (¬ (k : Int) = 0 ∧ p < sum + x.pages) := by
                rcases hc with hc | hc
                · exact .inl ⟨hc, trivial⟩
                · rcases Nat.eq_zero_or_pos k with h0 | h0
                  · exact .inl ⟨h0, trivial⟩
                  · exact .inr ⟨by omega, hc⟩
              clear hx HS hc hbig
              rcases hcc with ⟨hk0, hs0⟩ | ⟨hk0, hs0⟩
              all_goals (try subst hk0)
              all_goals
                go_wp2_with (at_builtin; refine stop_intro ?_)
                refine stop_elim ?_
                refine wpList_append_rep rfl intS intE_ (w.heap.size + 1) (.tmp 41) (.tmp 42) rfl rfl (hown.alloc intS _) rfl (ys := [(0 : Int)]) (SlRep.one_new intS (F := fun _ => False) ?hg (rfl : [Value.int .i64 0] = _) ?hF1) ?F ?n (by decide) ?hbase ?_
                case hg => rfl
                case hF1 => exact fun _ h => h.elim
                case F =>
                  intro bb hbb
                  rcases hbb with hbb | hbb
                  · exact hbb.elim
                  · subst hbb
                    exact ⟨by simp, fun he => by have := hlta _ he; omega⟩
                case n => simp; omega
                case hbase => simp at hsz ⊢; omega
                intro v6 w6 hown6 hg6 hat6
                have hb6 := (hbr.alloc (by simp at hsz; exact hsz) (.cells #[.int .i64 0] 3)).grown hg6 (by simp at hsz ⊢; omega) (fun k hk => (hlta k hk).1)
                obtain ⟨o1, ho1⟩ : ∃ o1, out ++ [(0 : Int)] = o1 := ⟨_, rfl⟩
                rw [ho1] at hown6
                obtain ⟨g, cap, rfl, hgb, hgl, hgc, hgm⟩ := own_ptr hown6 (n := q + 1) (by rw [← ho1]; simp [hq]) (by omega)
                have hqc : o1[q]? = some 0 := by rw [← ho1, ← hq]; simp
                obtain ⟨_, _, e9, _, y0⟩ := Ints.at_ (hown6.toSl intS) hqc
                cases e9
                simp only [Nat.zero_add] at y0
                have y1 := own_frz hown6 q
                have hset := hown6.set_ intS (i := q) (j := 0) (x' := 1) (u := .int .i64 1) hqc (by decide) rfl
                rw [Nat.mul_one, Nat.add_zero, show o1.set q 1 = out ++ [1] by rw [← ho1, ← hq, List.set_append_right _ _ (Nat.le_refl _)]; simp] at hset
                have HSET := Lib.hid hset
                have HB6 := Lib.hid (hb6.setCell (p := ⟨g, q, none⟩) hgb (.int .i64 1))
                clear hown6 hg6 hat6 hset hb6 ho1 hqc
                go_wp2
                go_roundw
                case rel => exact ⟨_, _, x.pages, _, by omega, by go_num, rfl, rfl, HN, HSET.out, HB6.out⟩
                case measure => simp [intOf]; omega
            · have hk0 : k ≠ 0 := fun e => hc (.inl e)
              have hs0 : ¬ p < sum + x.pages := fun e => hc (.inr e)
              obtain ⟨q, m, hq, hqm, hmk, HN⟩ := HS.out.more hx hpg.1 hx1 hk0 hs0
              have HN := Lib.hid HN
              have hk0i : ¬ (k : Int) = 0 := by omega
              have hwq : IntKind.i64.wrap (q : Int) = (q : Int) := IntWalk.i64_in _ (by omega)
              have hws : IntKind.i64.wrap (sum + x.pages) = sum + x.pages := IntWalk.i64_in _ (by omega)
              have hwm : IntKind.i64.wrap ((m : Int) + 1) = (m : Int) + 1 := IntWalk.i64_in _ (by omega)
              have hqi : (q : Int) < (q : Int) + 1 := by omega
              obtain ⟨g, cap, e8, hgb, hgl, hgc, hgm⟩ := own_ptr hown (n := q + 1) hq (by omega)
              cases e8
              obtain ⟨_, _, e9, _, y0⟩ := Ints.at_ (hown.toSl intS) hqm
              cases e9
              simp only [Nat.zero_add] at y0
              have y1 := own_frz hown q
              have hset := hown.set_ intS (i := q) (j := 0) (x' := (m : Int) + 1) (u := .int .i64 ((m : Int) + 1)) hqm (by decide) rfl
              rw [Nat.mul_one, Nat.add_zero] at hset
              have HSET := Lib.hid hset
              have HB6 := Lib.hid (hbr.setCell (p := ⟨g, q, none⟩) hgb (.int .i64 ((m : Int) + 1)))
              clear hown hset hqm hq hx HS hc hbig
              go_wp2
              go_roundw
              case rel => exact ⟨k + 1, _, _, _, by omega, by go_num, rfl, rfl, HN, HSET.out, HB6.out⟩
              case measure => simp [intOf]; omega
        · have hk2 : k = l.items.length := by omega
          subst hk2
          have hki : ¬ (l.items.length : Int) < (l.items.length : Int) := by omega
          have HX := Lib.hid (HOK.out (fun x hx => HS.out.ok x (by rw [List.take_length]; exact hx)))
          have HD := Lib.hid HS.out.done
          go_wp2
          go_ret2
          exact ⟨.slice Ao no co, by rw [HX.out.1]; rfl, by rw [HX.out.2, ← HD.out]; exact hown.base_le (Nat.le_succ _), bW⟩
end Go.Proofs.YtenaifmkejmdaaaGreatDoor
