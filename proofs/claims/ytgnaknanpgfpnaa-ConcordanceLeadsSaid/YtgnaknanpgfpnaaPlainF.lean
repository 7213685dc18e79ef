/- The table of old marks leads from each mark that its unit does not have any more to the one that it has. Plain lists; and the length of a map. -/
import Derived.Test.YtgnaknanpgfpnaaPlainE
namespace Go.Proofs.Ytgnaknanpgfpnaa
open Go.RowKit

theorem less_of {a b : ByteArray} (h1 : lessB b a = false) (h2 : b ≠ a) : lessB a b = true := by
  rcases lessB_tri a b with h | h | h
  · exact h
  · exact absurd h.symm h2
  · rw [h] at h1; cases h1
theorem tableG_in (hs : List Shot) : ∀ (l : List Given) (p : Option Given), sortedG (p.toList ++ l) → ∀ x ∈ tableG hs p l, (∃ g ∈ l, x = (g.mark, nowMark hs g.unit) ∧ nowMark hs g.unit ≠ g.mark) ∧ p.map (·.mark) ≠ some x.1
  | [], _, _, x, hx => by simp [tableG] at hx
  | g :: l, p, hsrt, x, hx => by
    have hsrt' : sortedG ((some g).toList ++ l) := hsrt.sublist (List.sublist_append_right _ _)
    have step : ∀ x ∈ tableG hs (some g) l, (∃ y ∈ g :: l, x = (y.mark, nowMark hs y.unit) ∧ nowMark hs y.unit ≠ y.mark) ∧ p.map (·.mark) ≠ some x.1 := by
      intro x hx
      obtain ⟨⟨y, hy, e, hne⟩, hpx⟩ := tableG_in hs l (some g) hsrt' x hx
      refine ⟨⟨y, by simp [hy], e, hne⟩, fun hp => ?_⟩
      cases p with
      | none => cases hp
      | some q =>
        simp only [Option.map_some, Option.some.injEq] at hp
        have hs2 : sortedG (q :: g :: l) := hsrt
        obtain ⟨a1, a2⟩ := List.pairwise_cons.1 hs2
        obtain ⟨b1, _⟩ := List.pairwise_cons.1 a2
        have hq : q.mark = y.mark := by rw [hp, e]
        have := mid_eq (sorted_less (a1 g (by simp))) (sorted_less (b1 y hy)) hq
        exact hpx (by simp only [Option.map_some]; rw [this, hp])
    unfold tableG at hx
    by_cases h1 : p.map (·.mark) = some g.mark
    · rw [if_pos h1] at hx; exact step x hx
    · rw [if_neg h1] at hx
      by_cases h2 : nowMark hs g.unit = g.mark
      · rw [if_pos h2] at hx; exact step x hx
      · rw [if_neg h2] at hx
        rcases List.mem_cons.1 hx with rfl | hx
        · exact ⟨⟨g, by simp, rfl, h2⟩, h1⟩
        · exact step x hx
theorem tableG_asc (hs : List Shot) : ∀ (l : List Given) (p : Option Given), sortedG (p.toList ++ l) → (tableG hs p l).Pairwise fun x y => lessB x.1 y.1 = true
  | [], _, _ => by simp [tableG]
  | g :: l, p, hsrt => by
    have hsrt' : sortedG ((some g).toList ++ l) := hsrt.sublist (List.sublist_append_right _ _)
    have ih := tableG_asc hs l (some g) hsrt'
    unfold tableG
    split
    · exact ih
    · split
      · exact ih
      · refine List.pairwise_cons.2 ⟨fun x hx => ?_, ih⟩
        obtain ⟨⟨y, hy, e, _⟩, hne⟩ := tableG_in hs l (some g) hsrt' x hx
        have hs2 : sortedG (g :: l) := hsrt'
        have hl := sorted_less ((List.pairwise_cons.1 hs2).1 y hy)
        rw [e]
        refine less_of hl fun e2 => hne ?_
        have e3 : y.mark = g.mark := e2
        rw [e]
        show some g.mark = some y.mark
        rw [e3]
theorem tableG_has (hs : List Shot) : ∀ (l : List Given) (p : Option Given), (∀ a ∈ l, ∀ b ∈ l, a.mark = b.mark → a.unit = b.unit) → ∀ g ∈ l, nowMark hs g.unit ≠ g.mark → p.map (·.mark) ≠ some g.mark → (g.mark, nowMark hs g.unit) ∈ tableG hs p l
  | [], _, _, g, hg, _, _ => by cases hg
  | y :: l, p, hone, g, hg, hn, hp => by
    have ih := tableG_has hs l (some y) (fun a ha b hb => hone a (by simp [ha]) b (by simp [hb])) g
    unfold tableG
    by_cases he : y.mark = g.mark
    · have hu := hone y (by simp) g hg he
      rw [if_neg (by rw [he]; exact hp), if_neg (by rw [hu, he]; exact hn), he, hu]
      simp
    · have hgl : g ∈ l := by
        rcases List.mem_cons.1 hg with rfl | h
        · exact absurd rfl he
        · exact h
      have hr := ih hgl hn (by simpa using he)
      split
      · exact hr
      · split
        · exact hr
        · exact List.mem_cons_of_mem _ hr
def oldF (t : List (ByteArray × ByteArray)) : ByteArray → Option ByteArray := t.foldl (fun f x => upd f x.1 x.2) (fun _ => none)
theorem oldF_snoc (t : List (ByteArray × ByteArray)) (x : ByteArray × ByteArray) : oldF (t ++ [x]) = upd (oldF t) x.1 x.2 := by simp [oldF]
theorem oldF_none (m : ByteArray) : ∀ (t : List (ByteArray × ByteArray)) (f : ByteArray → Option ByteArray), (∀ x ∈ t, x.1 ≠ m) → (t.foldl (fun f x => upd f x.1 x.2) f) m = f m
  | [], _, _ => rfl
  | x :: t, f, h => by
    rw [List.foldl_cons, oldF_none m t _ fun y hy => h y (by simp [hy])]
    have := h x (by simp)
    simp [upd, Ne.symm this]
theorem oldF_some : ∀ (t : List (ByteArray × ByteArray)) (f : ByteArray → Option ByteArray), t.Pairwise (fun x y => lessB x.1 y.1 = true) → ∀ x ∈ t, (t.foldl (fun f x => upd f x.1 x.2) f) x.1 = some x.2
  | [], _, _, x, hx => by cases hx
  | y :: t, f, hp, x, hx => by
    obtain ⟨h1, h2⟩ := List.pairwise_cons.1 hp
    rw [List.foldl_cons]
    rcases List.mem_cons.1 hx with rfl | hx
    · rw [oldF_none x.1 t _ fun z hz e => by have := h1 z hz; rw [e, lessB_irrefl] at this; cases this]
      simp [upd]
    · exact oldF_some t _ h2 x hx
/-- what the table says at one given mark -/
theorem leads_one {hs : List Shot} (h : progCheck hs = 0) {g : Given} (hg : g ∈ collectL hs) : (nowMark hs g.unit ≠ g.mark → oldF (progTable hs) g.mark = some (nowMark hs g.unit)) ∧ (nowMark hs g.unit = g.mark → oldF (progTable hs) g.mark = none) := by
  have ht : progTable hs = tableG hs none (collectL hs) := by unfold progTable; rw [if_neg (by simp [h])]
  rw [collect_eq h] at ht hg
  have hsrt : sortedG ((none : Option Given).toList ++ refCollect hs) := refCollect_sorted hs
  have hone : ∀ a ∈ refCollect hs, ∀ b ∈ refCollect hs, a.mark = b.mark → a.unit = b.unit := fun a ha b hb => collect_unit h ha hb
  constructor
  · intro hn
    have hm := tableG_has hs (refCollect hs) none hone g hg hn (by simp)
    rw [← ht] at hm
    exact oldF_some (progTable hs) _ (by rw [ht]; exact tableG_asc hs _ none hsrt) _ hm
  · intro hn
    refine oldF_none g.mark (progTable hs) _ fun x hx e => ?_
    rw [ht] at hx
    obtain ⟨⟨y, hy, e2, hne⟩, _⟩ := tableG_in hs _ none hsrt x hx
    have hmk : y.mark = g.mark := by rw [← e, e2]
    exact hne (by rw [hone y hy g hg hmk, hmk]; exact hn)
theorem table_asc {hs : List Shot} (h : progCheck hs = 0) : (progTable hs).Pairwise fun x y => lessB x.1 y.1 = true := by
  have ht : progTable hs = tableG hs none (collectL hs) := by unfold progTable; rw [if_neg (by simp [h])]
  rw [ht, collect_eq h]
  exact tableG_asc hs _ none (refCollect_sorted hs)
theorem table_keys {hs : List Shot} (h : progCheck hs = 0) : ((progTable hs).map (·.1)).Nodup ∧ ∀ m, m ∈ (progTable hs).map (·.1) ↔ ∃ g ∈ collectL hs, g.mark = m ∧ nowMark hs g.unit ≠ g.mark := by
  have ht : progTable hs = tableG hs none (collectL hs) := by unfold progTable; rw [if_neg (by simp [h])]
  have hsrt : sortedG ((none : Option Given).toList ++ refCollect hs) := refCollect_sorted hs
  have hone : ∀ a ∈ refCollect hs, ∀ b ∈ refCollect hs, a.mark = b.mark → a.unit = b.unit := fun a ha b hb => collect_unit h ha hb
  refine ⟨?_, fun m => ?_⟩
  · have hp := table_asc h
    rw [List.nodup_iff_pairwise_ne, List.pairwise_map]
    exact hp.imp fun {x y} hxy e => by rw [e, lessB_irrefl] at hxy; cases hxy
  · rw [ht, collect_eq h]
    constructor
    · intro hm
      obtain ⟨x, hx, rfl⟩ := List.mem_map.1 hm
      obtain ⟨⟨y, hy, e2, hne⟩, _⟩ := tableG_in hs _ none hsrt x hx
      exact ⟨y, hy, by rw [e2], hne⟩
    · rintro ⟨g, hg, rfl, hn⟩
      exact List.mem_map.2 ⟨_, tableG_has hs (refCollect hs) none hone g hg hn (by simp), rfl⟩
theorem atS_all (d : Int) : ∀ (l : List Shot) (p : Option Shot), (∀ y ∈ l, y.day ≤ d) → atS d p l = lastS p l
  | [], _, _ => rfl
  | y :: l, p, h => by
    rw [atS, if_pos (h y (by simp)), lastS]
    exact atS_all d l (some y) fun z hz => h z (by simp [hz])
theorem lastS_at : ∀ (l : List Shot) (p : Option Shot), l ≠ [] → lastS p l = l[l.length - 1]?
  | [], _, h => absurd rfl h
  | [x], _, _ => rfl
  | x :: y :: l, p, _ => by
    rw [lastS, lastS_at (y :: l) (some x) (by simp)]
    simp
def stMark (o : Option Standing) : ByteArray := match o with
  | none => ⟨#[]⟩
  | some s => s.mark
theorem stand_now {hs : List Shot} (h : progCheck hs = 0) (u : Int) : stMark (progStanding hs u 1048575) = nowMark hs u := by
  rw [stand_at h, atS_all 1048575 hs none fun y hy => (oks_of hs _ _ (good_of h).2 y hy).hi]
  unfold nowMark
  by_cases he : hs = []
  · subst he; rfl
  · rw [lastS_at hs none he]
    cases hs[hs.length - 1]? with
    | none => rfl
    | some s =>
      show stMark (findU s.units u) = markOf s.units u
      unfold markOf findU
      cases s.units.find? (fun x => x.unit == u) <;> rfl

section
variable {κ ν : Type} [DecidableEq κ] {P : Program} {w : World} {b : Nat} {kenc : κ → Value} {venc : ν → Value}
theorem mget_ne (k : κ) (es : List (κ × ν × Nat)) : mget es k ≠ none ↔ k ∈ es.map (·.1) := by
  unfold mget
  rw [ne_eq, Option.map_eq_none_iff, List.find?_eq_none, List.mem_map]
  constructor
  · intro h
    by_cases hc : ∃ a, a ∈ es ∧ a.1 = k
    · exact hc
    · exact absurd (fun x hx => by simpa using fun e => hc ⟨x, hx, e⟩) h
  · rintro ⟨a, ha, rfl⟩ h
    exact absurd (by simp) (h a ha)
theorem wpList_mapLen {ops : Array Oper} {rest : List Oper} {o : Oper} {a : Act} {Q : Exit → Act → World → Prop} (hg : o.guard = none) (m : Operand) (t : TypeId) (hop : o.op = Op.call { callee := Callee.builtin Builtin.len, args := #[m], argTypes := #[t] })
    (ht : P.underlying t = some (.map (P.mapKeyOf t) (P.mapElemOf t))) {f : κ → Option ν} (h : MapF w b kenc venc f) (hm : a.eval m = .map (some b)) (ks : List κ) (hn : ks.Nodup) (hk : ∀ k, f k ≠ none ↔ k ∈ ks)
    (hN : wpList P ops Q rest (a.put o.dst (.int .i64 ks.length)) w) : wpList P ops Q (o :: rest) a w := by
  obtain ⟨es, clock, hat, hf⟩ := h
  have hl : es.length = ks.length := by
    have hp : (es.map (·.1)).Perm ks := (List.perm_ext_iff_of_nodup hat.keys hn).2 fun k => by rw [← mget_ne, hf, hk]
    have := hp.length_eq
    simpa using this
  refine wpList_plain hg fun K' hK' => ?_
  have hrun := run_len_map (P := P) (w := w) t o.type b _ clock ht hat.blk
  unfold Oper.wp
  simp [execOp, hop, resolve, invoke, builtin, hm, hrun, Result.andThen]
  simp only [goInt, hl]
  exact hK' _ _ hN
end
end Go.Proofs.Ytgnaknanpgfpnaa
