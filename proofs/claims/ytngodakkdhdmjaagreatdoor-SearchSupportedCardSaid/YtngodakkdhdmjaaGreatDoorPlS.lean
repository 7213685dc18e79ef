/- Plain: what matches is supported; what is found, each unit once, in order. -/
import Derived.Test.YtngodakkdhdmjaaGreatDoorFin
namespace Go.Proofs.YtngodakkdhdmjaaGreatDoor
open Go.RowKit

theorem build_has6 {c : Cat} {s : ByteArray} (he : buildE c s = 0) {k : Nat} {x : Sheet} (hx : c.sheets[k]? = some x) : (∀ p ∈ putF x.unit (-1) x.title, p ∈ buildF c s) ∧ ∀ f ∈ chooseR c x.unit s, ∀ p ∈ putF x.unit f.el f.text, p ∈ buildF c s := by
  have h0 := (buildE_zero he).1
  have key : ∀ p ∈ rawF c s x.unit, p ∈ buildF c s := fun p hp => by
    rw [build_list he, sortP_mem]
    unfold allF
    exact List.mem_flatMap.2 ⟨x, List.mem_of_getElem? hx, sortP_mem.2 hp⟩
  have hr := raw_at (s := s) (sheet_ix6 h0 hx) hx
  exact ⟨fun p hp => key p (by rw [hr]; exact List.mem_append_left _ hp), fun f hf p hp => key p (by rw [hr]; exact List.mem_append_right _ (List.mem_flatMap.2 ⟨f, hf, hp⟩))⟩
theorem fld_post {c : Cat} {s : ByteArray} (he : buildE c s = 0) {k : Nat} {x : Sheet} (hx : c.sheets[k]? = some x) {f : Wds} (hf : f ∈ fldF c s x) {j : Nat} {y : ByteArray} (hy : f.list[j]? = some y) : (⟨y, x.unit, f.field, (j : Int)⟩ : Post) ∈ buildF c s := by
  obtain ⟨h1, h2⟩ := build_has6 he hx
  have key : ∀ (u n : Int) (t : ByteArray), (wordsF t)[j]? = some y → (⟨y, u, n, (j : Int)⟩ : Post) ∈ putF u n t := fun u n t ht => by
    have := putG_at u n (wordsF t) 0 j y ht
    rw [Nat.zero_add] at this
    exact List.mem_of_getElem? this
  unfold fldF at hf
  rcases List.mem_cons.1 hf with rfl | hf
  · exact h1 _ (key _ _ _ hy)
  · obtain ⟨g, hg, rfl⟩ := List.mem_map.1 hf
    exact h2 g hg _ (key _ _ _ hy)
theorem atB_some {a : Ask} {want : List ByteArray} : ∀ {l : List ByteArray}, atB a want l = true → ∃ j y, l[j]? = some y ∧ (if a.op = 2 then pfxB a.text y = true else (l.drop j).take want.length = want)
  | [], h => by cases h
  | x :: r, h => by
    rw [atB, Bool.or_eq_true] at h
    rcases h with h | h
    · refine ⟨0, x, rfl, ?_⟩
      split
      · rename_i h2
        rw [if_pos h2] at h
        exact h
      · rename_i h2
        rw [if_neg h2, decide_eq_true_iff] at h
        exact h
    · obtain ⟨j, y, h1, h2⟩ := atB_some h
      exact ⟨j + 1, y, h1, h2⟩
theorem frs_all {all : Post → Bool} {p : Post} : ∀ (ws : List ByteArray) (i : Nat), (∀ (m : Nat) y, ws[m]? = some y → all ⟨y, p.unit, p.field, p.place + ((i + m : Nat) : Int)⟩ = true) → (i = 0 → ∀ y, ws[0]? = some y → y = p.word) → frsB all p i ws = true
  | [], _, _, _ => rfl
  | x :: r, i, h1, h2 => by
    rw [frsB, Bool.and_eq_true, Bool.and_eq_true]
    refine ⟨⟨?_, h1 0 x rfl⟩, frs_all r (i + 1) (fun m y hy => ?_) (fun e => absurd e (by omega))⟩
    · by_cases hi : i = 0
      · rw [h2 hi x rfl]; simp
      · simp [hi]
    · have := h1 (m + 1) y hy
      rwa [show i + (m + 1) = i + 1 + m by omega] at this
theorem found_sup {c : Cat} {s : ByteArray} (he : buildE c s = 0) {k : Nat} {x : Sheet} (hx : c.sheets[k]? = some x) {a : Ask} (h : fndB (fldF c s x) a = true) : ∃ p ∈ buildF c s, p.unit = x.unit ∧ supB (ownB (buildF c s) x.unit) p a = true := by
  unfold fndB at h
  rw [List.any_eq_true] at h
  obtain ⟨f, hf, h⟩ := h
  rw [Bool.and_eq_true] at h
  obtain ⟨hfd, hat⟩ := h
  obtain ⟨j, y, hy, hc⟩ := atB_some hat
  have hp := fld_post he hx hf hy
  have hown : ∀ (m : Nat) z, f.list[m]? = some z → ownB (buildF c s) x.unit ⟨z, x.unit, f.field, (m : Int)⟩ = true := fun m z hz => by
    unfold ownB
    rw [Bool.and_eq_true]
    exact ⟨by simp, List.any_eq_true.2 ⟨_, fld_post he hx hf hz, by simp⟩⟩
  refine ⟨_, hp, rfl, ?_⟩
  unfold supB
  rw [Bool.and_eq_true]
  refine ⟨hfd, ?_⟩
  split
  · rename_i h2
    rw [if_pos h2] at hc
    exact hc
  · rename_i h2
    rw [if_neg h2] at hc
    have hat' : ∀ (m : Nat) z, (wntF a.text)[m]? = some z → f.list[j + m]? = some z := fun m z hz => by
      have hm := lt_of_at hz
      rw [← hc, List.getElem?_take, if_pos hm, List.getElem?_drop] at hz
      exact hz
    refine frs_all (wntF a.text) 0 (fun m z hz => ?_) (fun _ z hz => ?_)
    · have := hown (j + m) z (hat' m z hz)
      rw [show (j : Int) + ((0 + m : Nat) : Int) = ((j + m : Nat) : Int) by omega]
      exact this
    · have := hat' 0 z hz
      rw [Nat.add_zero, hy] at this
      injection this with this
      exact this.symm
theorem pos_found {c : Cat} {s : ByteArray} {und : Int → Int → Bool} {x : Sheet} : ∀ (Q : Qt), Q.Fit → (∀ a ∈ Q.ls, 1 ≤ a.op ∧ a.op ≤ 8 ∧ a.op ≠ 8 ∧ a.op ≠ 4 ∧ a.op ≠ 5) → evQ (leafB c s und x) Q = true → ∃ a ∈ posQ Q, fndB (fldF c s x) a = true
  | .leaf a, hQ, ho, h => by
    obtain ⟨h1, h2, h3, h4, h5⟩ := ho a (by simp [Qt.ls])
    have hp : prtN a.op = 0 := hQ
    have h67 : ¬ (a.op = 6 ∨ a.op = 7) := fun e => by unfold prtN at hp; rw [if_pos e] at hp; cases hp
    have ht : txtB a.op = true := by
      unfold txtB
      simp only [Bool.or_eq_true, decide_eq_true_eq]
      omega
    have h' : leafB c s und x a = true := h
    unfold leafB at h'
    rw [if_neg h4, if_neg h5] at h'
    exact ⟨a, by unfold posQ; rw [if_pos ht]; simp, h'⟩
  | .one a q, hQ, ho, h => by
    obtain ⟨-, -, h3, -⟩ := ho a (by simp [Qt.ls])
    have hp : prtN a.op = 1 := hQ.1
    exfalso
    unfold prtN at hp
    by_cases h67 : a.op = 6 ∨ a.op = 7
    · rw [if_pos h67] at hp; omega
    · rw [if_neg h67, if_neg h3] at hp; omega
  | .two a p q, hQ, ho, h => by
    have hp' : ∀ b ∈ p.ls, 1 ≤ b.op ∧ b.op ≤ 8 ∧ b.op ≠ 8 ∧ b.op ≠ 4 ∧ b.op ≠ 5 := fun b hb => ho b (by simp [Qt.ls, hb])
    have hq' : ∀ b ∈ q.ls, 1 ≤ b.op ∧ b.op ≤ 8 ∧ b.op ≠ 8 ∧ b.op ≠ 4 ∧ b.op ≠ 5 := fun b hb => ho b (by simp [Qt.ls, hb])
    have key : evQ (leafB c s und x) p = true ∨ evQ (leafB c s und x) q = true := by
      unfold evQ at h
      split at h
      · rw [Bool.and_eq_true] at h; exact .inl h.1
      · rw [Bool.or_eq_true] at h; exact h
    rcases key with h | h
    · obtain ⟨b, hb, hf⟩ := pos_found p hQ.2.1 hp' h
      exact ⟨b, by unfold posQ; exact List.mem_append_left _ hb, hf⟩
    · obtain ⟨b, hb, hf⟩ := pos_found q hQ.2.2 hq' h
      exact ⟨b, by unfold posQ; exact List.mem_append_right _ hb, hf⟩
theorem ask_op {a : Ask} (h : askF a = 0) : 1 ≤ a.op ∧ a.op ≤ 8 := by
  unfold askF at h
  split at h
  · omega
  · omega
theorem sco_ge : ∀ (l : List Post) (n : Int), n + l.length ≤ l.foldl (fun n p => if p.field = -1 then n + 3 else n + 1) n
  | [], n => by simp
  | p :: r, n => by
    rw [List.foldl_cons, List.length_cons]
    have := sco_ge r (if p.field = -1 then n + 3 else n + 1)
    split <;> rename_i h <;> simp only [h, if_true, if_false] at this <;> omega
theorem sco_pos {l : List Post} (h : l ≠ []) : 1 ≤ scoF l := by
  have := sco_ge l 0
  have hl : 0 < l.length := List.length_pos_iff.2 h
  unfold scoF
  omega
/-- what is found: its units, in their order -/
theorem find_mem {c : Cat} {s : ByteArray} {und : Int → Int → Bool} {l : List Post} {q : List Ask} {Q : Qt} (hE : findE c s l q = 0) {x : Hit} : x ∈ findL c s und l q Q ↔ ∃ y ∈ c.sheets, mchB c s und Q y = true ∧ hitF l Q y = x := by
  unfold findL
  rw [if_pos hE]
  unfold sortH
  rw [(sortG_perm _).mem_iff]
  unfold hitsF
  rw [List.mem_map]
  constructor
  · rintro ⟨y, hy, e⟩
    rw [List.mem_filter] at hy
    exact ⟨y, hy.1, hy.2, e⟩
  · rintro ⟨y, hy, hm, e⟩
    exact ⟨y, List.mem_filter.2 ⟨hy, hm⟩, e⟩
theorem find_units {c : Cat} {s : ByteArray} {und : Int → Int → Bool} {l : List Post} {q : List Ask} {Q : Qt} : ((findL c s und l q Q).map Hit.unit).Nodup := by
  unfold findL
  split
  · rename_i hE
    have h0 := (find_l hE).1
    unfold sortH
    rw [((sortG_perm (le := hleB) (hitsF c s und l Q c.sheets)).map Hit.unit).nodup_iff]
    unfold hitsF
    rw [List.map_map]
    have e : (Hit.unit ∘ hitF l Q) = Sheet.unit := by funext y; rfl
    rw [e]
    exact (units_nodup h0).sublist (List.filter_sublist.map _)
  · simp
theorem find_asc {c : Cat} {s : ByteArray} {und : Int → Int → Bool} {l : List Post} {q : List Ask} {Q : Qt} {j : Nat} {x y : Hit} (hx : (findL c s und l q Q)[j]? = some x) (hy : (findL c s und l q Q)[j + 1]? = some y) : y.score ≤ x.score ∧ (x.score = y.score → x.unit < y.unit) := by
  have hs : (findL c s und l q Q).Pairwise (fun a b => hleB a b = true) := by
    unfold findL
    split
    · exact sortG_sorted hle_tr hle_to _
    · exact List.Pairwise.nil
  have hn := find_units (c := c) (s := s) (und := und) (l := l) (q := q) (Q := Q)
  generalize findL c s und l q Q = h at *
  obtain ⟨h1, e1⟩ := List.getElem?_eq_some_iff.1 hx
  obtain ⟨h2, e2⟩ := List.getElem?_eq_some_iff.1 hy
  have hle := List.pairwise_iff_getElem.1 hs j (j + 1) h1 h2 (by omega)
  rw [e1, e2] at hle
  have hne : x.unit ≠ y.unit := fun e => by
    have := (List.getElem?_inj (i := j) (j := j + 1) (by rw [List.length_map]; exact h1) hn).1 (by rw [List.getElem?_map, List.getElem?_map, hx, hy]; simp [e])
    omega
  unfold hleB at hle
  simp only [Bool.or_eq_true, Bool.and_eq_true, decide_eq_true_eq] at hle
  constructor
  · omega
  · intro e; omega
/-- a unit of the catalog is found exactly if it matches -/
theorem find_unit {c : Cat} {s : ByteArray} {und : Int → Int → Bool} {l : List Post} {q : List Ask} {Q : Qt} (hE : findE c s l q = 0) {k : Nat} {x : Sheet} (hx : c.sheets[k]? = some x) : x.unit ∈ (findL c s und l q Q).map Hit.unit ↔ mchB c s und Q x = true := by
  have h0 := (find_l hE).1
  rw [List.mem_map]
  constructor
  · rintro ⟨z, hz, e⟩
    obtain ⟨y, hy, hm, rfl⟩ := (find_mem hE).1 hz
    obtain ⟨j, hj⟩ := List.getElem?_of_mem hy
    have hjk : j = k := by
      have h1 := sheet_ix6 h0 hj
      have h2 := sheet_ix6 h0 hx
      have e' : y.unit = x.unit := e
      rw [e', h2] at h1
      omega
    subst hjk
    rw [hx] at hj
    injection hj with hj
    rw [hj]
    exact hm
  · intro hm
    exact ⟨hitF l Q x, (find_mem hE).2 ⟨x, List.mem_of_getElem? hx, hm, rfl⟩, rfl⟩
/-- what is found is supported -/
theorem find_sup {c : Cat} {s : ByteArray} {und : Int → Int → Bool} {l : List Post} {q : List Ask} {Q : Qt} (hE : findE c s l q = 0) (hQ : Q.Fit ∧ Q.ls = q) (ho : ∀ a ∈ q, a.op ≠ 8 ∧ a.op ≠ 4 ∧ a.op ≠ 5) {x : Hit} (hx : x ∈ findL c s und l q Q) : supF l x.unit (posQ Q) ≠ [] ∧ 1 ≤ x.score := by
  obtain ⟨h0, h1, h2, h3, h4⟩ := find_l hE
  obtain ⟨y, hy, hm, rfl⟩ := (find_mem hE).1 hx
  obtain ⟨j, hj⟩ := List.getElem?_of_mem hy
  have hops : ∀ a ∈ Q.ls, 1 ≤ a.op ∧ a.op ≤ 8 ∧ a.op ≠ 8 ∧ a.op ≠ 4 ∧ a.op ≠ 5 := fun a ha => by
    rw [hQ.2] at ha
    obtain ⟨g1, g2⟩ := ask_op ((askE_zero h1).2.1 a ha)
    exact ⟨g1, g2, ho a ha⟩
  obtain ⟨a, ha, hf⟩ := pos_found Q hQ.1 hops hm
  obtain ⟨p, hp, hu, hs⟩ := found_sup h3 hj hf
  have hne : supF l y.unit (posQ Q) ≠ [] := by
    rw [h4] at hp hs
    exact List.ne_nil_of_mem (a := p) (List.mem_filter.2 ⟨hp, by rw [Bool.and_eq_true]; exact ⟨by simp [hu], List.any_eq_true.2 ⟨a, ha, hs⟩⟩⟩)
  exact ⟨hne, sco_pos hne⟩
theorem sup_own {l : List Post} {u : Int} {ns : List Ask} {p : Post} (h : p ∈ supF l u ns) : p.unit = u ∧ p ∈ l := by
  unfold supF at h
  rw [List.mem_filter, Bool.and_eq_true] at h
  exact ⟨by simpa using h.2.1, h.1⟩
theorem find_len (c : Cat) (s : ByteArray) (und : Int → Int → Bool) (l : List Post) (q : List Ask) (Q : Qt) : (findL c s und l q Q).length ≤ c.sheets.length := by
  unfold findL
  split
  · unfold sortH
    rw [(sortG_perm _).length_eq]
    unfold hitsF
    rw [List.length_map]
    exact List.length_filter_le _ _
  · simp
end Go.Proofs.YtngodakkdhdmjaaGreatDoor
