/- Catalogs that are small: few. -/
import Derived.Test.YtngodakkdhdmjaaGreatDoorRfF
import Derived.Test.YtngodakkdhdmjaaGreatDoorIxs
namespace Go.Proofs.YtngodakkdhdmjaaGreatDoor
open Go.RowKit

def catR : CRep Cat := fun w F x cs => ∃ v1 v2 v3, cs = [v1, v2, v3] ∧ SlRep 1 (flat strEnc) w F x.langs v1 ∧ SlRep 4 (flat Label.enc) w F x.labels v2 ∧ SlRep 6 shtR w F x.sheets v3
theorem catS : Shape 3 catR := ⟨fun hb ⟨v1, v2, v3, h0, h1, h2, h3⟩ => ⟨v1, v2, v3, h0, h1.frame strS hb, h2.frame labS hb, h3.frame shtS hb⟩, fun hb ⟨v1, v2, v3, h0, h1, h2, h3⟩ => ⟨v1, v2, v3, h0, h1.monoF strS hb, h2.monoF labS hb, h3.monoF shtS hb⟩, fun ⟨v1, v2, v3, h0, _⟩ => by rw [h0]; rfl, fun ⟨v1, v2, v3, h0, h1, h2, h3⟩ u hu => by
  obtain ⟨_, _, e1, _⟩ := h1
  obtain ⟨_, _, e2, _⟩ := h2
  obtain ⟨_, _, e3, _⟩ := h3
  subst h0 e1 e2 e3
  simp at hu
  rcases hu with rfl | rfl | rfl <;> rfl⟩
theorem catE3_ : Elem Tryz.prog 87 41 3 72 := by
  obtain ⟨i, h1, h2, h3, h4⟩ := info_parts (P := Tryz.prog) (e := 41) (z := .agg #[.slice none 0 0, .slice none 0 0, .slice none 0 0]) (size := 3) (bytes := 72) (by kernel_rfl)
  exact ⟨Tryz.underlying87, ⟨i, _, h1, h2, h3, h4, rfl⟩, by decide⟩
theorem Cats.at_ {w : World} {B : Nat} {A : Option Addr} {n c i : Nat} {xs : List Cat} {x : Cat} (h : SlRep 3 catR w (fun b => b < B) xs (.slice A n c)) (hx : xs[i]? = some x) : ∃ b off v1 v2 v3, A = some ⟨b, off, none⟩ ∧ b < B ∧ w.cell? ⟨b, off + i * 3, none⟩ = some v1 ∧ w.cell? ⟨b, off + i * 3 + 1, none⟩ = some v2 ∧ w.cell? ⟨b, off + i * 3 + 2, none⟩ = some v3 ∧ CatRep w B x v1 v2 v3 := by
  obtain ⟨A', c', e, h1, h2, h3⟩ := h
  obtain ⟨b, off, cs, hA, hlt, ⟨v1, v2, v3, hcs, g1, g2, g3⟩, hc⟩ := h3 i x hx
  injection e with e1 e2 e3
  subst e1 hcs
  exact ⟨b, off, v1, v2, v3, hA, hlt, hc 0 _ rfl, hc 1 _ rfl, hc 2 _ rfl, ⟨g1, g2, g3⟩⟩
/-- a truth value that, being false, says Q -/
def CatB (Q : Prop) (e : Ending) : Prop := ∃ b, e = .returned (.bool b) ∧ (b = false → Q)
def CatI (Q : Prop) (e : Ending) : Prop := ∃ r : Int, e = .returned (.int .i64 r) ∧ (r < 0 → Q)
set_option maxHeartbeats 2000000 in
theorem catIdx_c (F : FuncId) (P : Cat → Prop) (xs : List Cat) (v : Value) (w : World) (B : Nat) (hB : B ≤ w.heap.size) (h : SlRep 3 catR w (fun b => b < B) xs v)
    (hF : ∀ (args : Array Value) (W : World), (callFunc F args).run Tryz.prog W = .ok (.enter F args) W)
    (hp : ∀ (x : Cat) (v1 v2 v3 : Value) (W : World), Below w.heap.size w W → CatRep W B x v1 v2 v3 → Calls Tryz.prog F #[.agg #[v1, v2, v3]] W fun e w' => CatB (P x) e ∧ Below W.heap.size W w') :
    Calls Tryz.prog 94 #[v, .func (.func F) #[] #[]] w fun e w' => CatI (∀ x ∈ xs, P x) e ∧ Below w.heap.size w w' := by
  obtain ⟨A, c, rfl, hc1, hc2, _⟩ := id h
  have HP := Lib.hid hp
  clear hp
  go_enter Tryz.func94, Tryz.ntmps94
  go_wp2
  go_loopw [8] (fun i wr => ∃ k : Nat, k ≤ xs.length ∧ i = .int .i64 k ∧ Hid (∀ (j : Nat) x, j < k → xs[j]? = some x → P x) ∧ Below w.heap.size w wr) (fun i _ => xs.length - (intOf i).toNat)
  case atStart => exact ⟨0, Nat.zero_le _, rfl, Lib.hid (fun j x hj => absurd hj (Nat.not_lt_zero _)), Below.refl _ _⟩
  case round =>
    obtain ⟨k, hk, rfl, HS, hb⟩ := hrel
    have hs := hb.size
    by_cases hlt : k < xs.length
    · obtain ⟨x, hx⟩ := get_at xs hlt
      obtain ⟨b, off, v1, v2, v3, rfl, hbB, g0, g1, g2, hcr⟩ := Cats.at_ (h.below catS (hb.mono hB)) hx
      have hbw : b < wr.heap.size := by omega
      have HPX := Lib.hid (HP.out x v1 v2 v3 wr hb hcr)
      have HX := Lib.hid hx
      have HO := Lib.hid (And.intro hcr.langs (And.intro hcr.labels hcr.sheets))
      obtain ⟨E1, C1, rfl, -⟩ := id hcr.langs
      obtain ⟨E2, C2, rfl, -⟩ := id hcr.labels
      obtain ⟨E3, C3, rfl, -⟩ := id hcr.sheets
      clear hx hcr HO
      go_wp2_with fail
      refine HPX.out.mono ?_
      rintro e w1 ⟨⟨q, rfl, hq⟩, hb1⟩
      have HQ := Lib.hid hq
      clear hq
      cases q
      · have HN := Lib.hid (show ∀ (j : Nat) x, j < k + 1 → xs[j]? = some x → P x from fun j y hj hy => by
          rcases Nat.lt_or_ge j k with h' | h'
          · exact HS.out j y h' hy
          · obtain rfl : j = k := by omega
            rw [HX.out] at hy
            injection hy with hy
            rw [← hy]
            exact HQ.out rfl)
        go_wp2
        go_roundw
        case rel => exact ⟨k + 1, by omega, by go_num, HN, hb.trans (hb1.mono hs)⟩
        case measure => simp [intOf]; omega
      · go_wp2
        go_ret
        exact ⟨⟨_, rfl, fun h => absurd h (by omega)⟩, hb.trans (hb1.mono hs)⟩
    · have HE := Lib.hid (show ∀ x ∈ xs, P x from fun x hx => by
        obtain ⟨j, hj⟩ := List.getElem?_of_mem hx
        exact HS.out j x (by have := lt_of_at hj; omega) hj)
      go_wp2
      go_ret
      exact ⟨⟨_, rfl, fun _ => HE.out⟩, hb⟩
theorem catAny_c (F : FuncId) (P : Cat → Prop) (xs : List Cat) (v : Value) (w : World) (B : Nat) (hB : B ≤ w.heap.size) (h : SlRep 3 catR w (fun b => b < B) xs v)
    (hF : ∀ (args : Array Value) (W : World), (callFunc F args).run Tryz.prog W = .ok (.enter F args) W)
    (hp : ∀ (x : Cat) (v1 v2 v3 : Value) (W : World), Below w.heap.size w W → CatRep W B x v1 v2 v3 → Calls Tryz.prog F #[.agg #[v1, v2, v3]] W fun e w' => CatB (P x) e ∧ Below W.heap.size W w') :
    Calls Tryz.prog 49 #[v, .func (.func F) #[] #[]] w fun e w' => CatB (∀ x ∈ xs, P x) e ∧ Below w.heap.size w w' := by
  have HI := Lib.hid (catIdx_c F P xs v w B hB h hF hp)
  obtain ⟨A, c, rfl, -⟩ := id h
  clear hp
  go_enter Tryz.func49, Tryz.ntmps49
  go_wp2_with fail
  refine HI.out.mono ?_
  rintro e w1 ⟨⟨r, rfl, hr⟩, hb1⟩
  have HR := Lib.hid hr
  clear hr
  go_wp2
  go_ret
  exact ⟨⟨_, rfl, fun h => HR.out (by simpa using h)⟩, hb1⟩
theorem enter_fw3 (args : Array Value) (W : World) : (callFunc 55 args).run Tryz.prog W = .ok (.enter 55 args) W := by kernel_rfl
theorem enter_fw2 (args : Array Value) (W : World) : (callFunc 53 args).run Tryz.prog W = .ok (.enter 53 args) W := by kernel_rfl
theorem enter_fw1 (args : Array Value) (W : World) : (callFunc 50 args).run Tryz.prog W = .ok (.enter 50 args) W := by kernel_rfl
def longF (f : Fact) : Bool := decide (100 < f.text.size) && decide (f.text.size ≤ 4096)
theorem fw3_c (f : Fact) (w : World) : Calls Tryz.prog 55 #[.agg #[.int .i64 f.el, .string f.lang, .string f.text]] w fun e w' => e = .returned (.bool (longF f)) ∧ Below w.heap.size w w' := by
  have hb : ∀ o, Below w.heap.size w (w.alloc o) := fun o => (Below.refl _ _).alloc (Nat.le_refl _) o
  by_cases h1 : 100 < f.text.size
  · have h1' : (100 : Int) < (f.text.size : Int) := by omega
    have HE := Lib.hid (show longF f = decide ((f.text.size : Int) ≤ 4096) by
      unfold longF
      rw [decide_eq_true h1, Bool.true_and, Bool.eq_iff_iff, decide_eq_true_iff, decide_eq_true_iff]
      omega)
    clear h1
    go_enter Tryz.func55, Tryz.ntmps55
    go_wp2
    go_ret
    exact ⟨ret_bool HE.out.symm, hb _⟩
  · have h1' : ¬ (100 : Int) < (f.text.size : Int) := by omega
    have HE := Lib.hid (show longF f = false by unfold longF; rw [decide_eq_false h1, Bool.false_and])
    clear h1
    go_enter Tryz.func55, Tryz.ntmps55
    go_wp2
    go_ret
    exact ⟨ret_bool HE.out.symm, hb _⟩
theorem fw2_c (s : Sheet) (vf : Value) (w : World) (B : Nat) (hB : B ≤ w.heap.size) (h : SlRep 3 (flat Fact.enc) w (fun b => b < B) s.facts vf) : Calls Tryz.prog 53 #[.agg #[.int .i64 s.unit, .int .i64 s.parent, .int .i64 s.level, .string s.mark, .string s.title, vf]] w fun e w' => e = .returned (.bool (s.facts.any longF)) ∧ Below w.heap.size w w' := by
  have bx := (Below.refl w.heap.size w).alloc (Nat.le_refl _) (shtC s vf)
  have HC := Lib.hid (fctIdx0_any 55 longF s.facts vf (w.alloc (shtC s vf)) B (Nat.le_trans hB bx.size) (h.below fctS (bx.mono hB)) (fun args W => enter_fw3 args W) (fun x W _ _ _ => fw3_c x W))
  obtain ⟨A, c, rfl, -⟩ := id h
  go_enter Tryz.func53, Tryz.ntmps53
  go_wp2_with fail
  refine HC.out.mono ?_
  rintro e w1 ⟨rfl, hb1⟩
  go_wp2
  go_ret
  exact ⟨rfl, bx.trans (hb1.mono bx.size)⟩
theorem catF_at {w W : World} {v1 v2 v3 : Value} (hW : Below (w.heap.size + 1) (w.alloc (catC v1 v2 v3)) W) : W.cell? ⟨w.heap.size, 0, none⟩ = some v1 ∧ W.cell? ⟨w.heap.size, 1, none⟩ = some v2 ∧ W.cell? ⟨w.heap.size, 2, none⟩ = some v3 ∧ w.heap.size < W.heap.size :=
  ⟨(hW.cell (p := ⟨w.heap.size, 0, none⟩) (by simp)).trans (by simp), (hW.cell (p := ⟨w.heap.size, 1, none⟩) (by simp)).trans (by simp), (hW.cell (p := ⟨w.heap.size, 2, none⟩) (by simp)).trans (by simp), by have := hW.size; simp at this; omega⟩
theorem fw1_c (c : Cat) (v1 v2 v3 : Value) (w : World) (B : Nat) (hB : B ≤ w.heap.size) (h : CatRep w B c v1 v2 v3) : Calls Tryz.prog 50 #[.agg #[v1, v2, v3]] w fun e w' => CatB (FewOk c) e ∧ Below w.heap.size w w' := by
  have b1 : Below w.heap.size w (w.alloc (catC v1 v2 v3)) := (Below.refl _ _).alloc (Nat.le_refl _) _
  have HF := Lib.hid (few_c c v1 v2 v3 (w.alloc (catC v1 v2 v3)) B (Nat.le_trans hB b1.size) (h.below (b1.mono hB)))
  have HC := Lib.hid (fun (W : World) (hW : Below w.heap.size w W) => shtIdx0_any 53 (fun s => s.facts.any longF) c.sheets v3 W B (Nat.le_trans hB hW.size) (h.sheets.below shtS (hW.mono hB)) (fun args W => enter_fw2 args W) (fun x vf W' _ hW' _ hx => by
    obtain ⟨vf', hcs, hr⟩ := hx
    have : vf = vf' := by simpa using hcs
    subst this
    exact fw2_c x vf W' B (Nat.le_trans hB (hW.trans (hW'.mono hW.size)).size) hr))
  have hb0 : Below (w.heap.size + 1) (w.alloc (catC v1 v2 v3)) (w.alloc (catC v1 v2 v3)) := Below.refl _ _
  obtain ⟨E1, C1, rfl, -⟩ := id h.langs
  obtain ⟨E2, C2, rfl, -⟩ := id h.labels
  obtain ⟨E3, C3, rfl, -⟩ := id h.sheets
  clear h
  go_enter Tryz.func50, Tryz.ntmps50
  go_wp2_with fail
  refine HF.out.mono ?_
  rintro e w1 ⟨⟨q, rfl, hq⟩, hb1⟩
  have hbX := bnd_call hb0 (by simp) hb1
  obtain ⟨z0, z1, z2, zl⟩ := catF_at hbX
  have HQ := Lib.hid hq
  have B1 := b1.trans (hbX.mono (Nat.le_succ _))
  clear hq
  cases q
  · go_wp2
    go_ret
    exact ⟨⟨_, rfl, fun h => by cases h⟩, B1⟩
  · go_wp2_with fail
    refine (HC.out _ B1).mono ?_
    rintro e w2 ⟨rfl, hb2⟩
    go_wp2
    go_ret
    exact ⟨⟨_, rfl, fun _ => by simpa using HQ.out⟩, B1.trans (hb2.mono B1.size)⟩
def FewsPost (cs : List Cat) (e : Ending) : Prop := ∃ b, e = .returned (.bool b) ∧ (b = true → ∀ c ∈ cs, FewOk c)
theorem few5_c (cs : List Cat) (v : Value) (w : World) (B : Nat) (hB : B ≤ w.heap.size) (h : SlRep 3 catR w (fun b => b < B) cs v) : Calls Tryz.prog 18 #[v] w fun e w' => FewsPost cs e ∧ Below w.heap.size w w' := by
  have HC := Lib.hid (catAny_c 50 FewOk cs v w B hB h (fun args W => enter_fw1 args W) (fun x v1 v2 v3 W hW hx => fw1_c x v1 v2 v3 W B (Nat.le_trans hB hW.size) hx))
  obtain ⟨A, c, rfl, -⟩ := id h
  go_enter Tryz.func18, Tryz.ntmps18
  go_wp2_with fail
  refine HC.out.mono ?_
  rintro e w1 ⟨⟨q, rfl, hq⟩, hb1⟩
  have HQ := Lib.hid hq
  clear hq
  go_wp2
  go_ret
  exact ⟨⟨_, rfl, fun h => HQ.out (by simpa using h)⟩, hb1⟩
end Go.Proofs.YtngodakkdhdmjaaGreatDoor
