/- Plain: the postings of a unit, of a catalog. -/
import Derived.Test.YtpfngehledgkiaaGreatPlG
import Derived.Test.YtpfngehledgkiaaGreatRgP
namespace Go.Proofs.YtpfngehledgkiaaGreat
open Go.RowKit

theorem chooseG_mem (ord : List ByteArray) : ∀ (l out : List Fact) (f : Fact), f ∈ chooseG ord out l → f ∈ out ∨ f ∈ l
  | [], out, f, h => .inl h
  | x :: r, out, f, h => by
    rw [chooseG_cons] at h
    have key : ∀ o : List Fact, (∀ g ∈ o, g ∈ out ∨ g ∈ x :: r) → f ∈ chooseG ord o r → f ∈ out ∨ f ∈ x :: r := fun o ho hf => by
      rcases chooseG_mem ord r o f hf with h1 | h1
      · exact ho f h1
      · exact .inr (List.mem_cons_of_mem _ h1)
    have k1 : ∀ g ∈ out ++ [x], g ∈ out ∨ g ∈ x :: r := fun g hg => by
      rcases List.mem_append.1 hg with h1 | h1
      · exact .inl h1
      · simp at h1; exact .inr (by rw [h1]; exact List.mem_cons_self)
    have k2 : ∀ g ∈ out.dropLast ++ [x], g ∈ out ∨ g ∈ x :: r := fun g hg => by
      rcases List.mem_append.1 hg with h1 | h1
      · exact .inl (List.dropLast_subset _ h1)
      · simp at h1; exact .inr (by rw [h1]; exact List.mem_cons_self)
    cases hl : out.getLast? with
    | none => rw [hl] at h; exact key _ k1 h
    | some q =>
      rw [hl] at h
      simp only at h
      split at h
      · exact key _ k1 h
      · split at h
        · exact key _ k2 h
        · exact key _ (fun g hg => .inl hg) h
theorem chooseG_len (ord : List ByteArray) : ∀ (l out : List Fact), (chooseG ord out l).length ≤ out.length + l.length
  | [], out => Nat.le_refl _
  | x :: r, out => by
    rw [chooseG_cons, List.length_cons]
    cases hl : out.getLast? with
    | none => simp only; have := chooseG_len ord r (out ++ [x]); rw [List.length_append, List.length_singleton] at this; omega
    | some q =>
      have hne : 0 < out.length := by
        rcases out with _ | ⟨a, b⟩
        · cases hl
        · simp
      simp only
      split
      · have := chooseG_len ord r (out ++ [x]); rw [List.length_append, List.length_singleton] at this; omega
      · split
        · have := chooseG_len ord r (out.dropLast ++ [x]); rw [List.length_append, List.length_singleton, List.length_dropLast] at this; omega
        · have := chooseG_len ord r out; omega
theorem choose_mem {ord : List ByteArray} {l : List Fact} {f : Fact} (h : f ∈ chooseF ord l) : f ∈ l := by
  rcases chooseG_mem ord l [] f h with h1 | h1
  · cases h1
  · exact h1
theorem fctE_mem {ls : List ByteArray} {l : List Fact} (h : fctE ls l = 0) {f : Fact} (hf : f ∈ l) : 1 ≤ f.el ∧ f.el ≤ 64 ∧ f.text.size ≤ 4096 := by
  unfold fctE at h
  by_cases h3 : 32 < l.length
  · rw [if_pos h3] at h; cases h
  · rw [if_neg h3] at h
    have := (fctG_zero l none h).1 f hf
    exact ⟨this.2.1, this.2.2.1, this.2.2.2.2⟩
/-- the postings of a unit, as they are met -/
def rawF (c : Cat) (s : ByteArray) (u : Int) : List Post := if shtIx c.sheets u < 0 then [] else putF u (-1) ((c.sheets[(shtIx c.sheets u).toNat]?.map Sheet.title).getD ⟨#[]⟩) ++ (chooseR c u s).flatMap fun f => putF u f.el f.text
/-- the postings of a unit -/
def ofF (c : Cat) (s : ByteArray) (u : Int) : List Post := sortP (rawF c s u)
theorem raw_at {c : Cat} {s : ByteArray} {u : Int} {k : Nat} {x : Sheet} (hi : shtIx c.sheets u = k) (hx : c.sheets[k]? = some x) : rawF c s u = putF u (-1) x.title ++ (chooseR c u s).flatMap fun f => putF u f.el f.text := by
  unfold rawF
  rw [hi, if_neg (by omega), Int.toNat_natCast, hx]
  rfl
theorem raw_none {c : Cat} {s : ByteArray} {u : Int} (hi : shtIx c.sheets u < 0) : rawF c s u = [] := by
  unfold rawF
  rw [if_pos hi]
/-- the facts that a unit's postings come from -/
theorem chosen_facts {c : Cat} {s : ByteArray} {u : Int} {k : Nat} {x : Sheet} (h0 : catE c = 0) (hi : shtIx c.sheets u = k) (hx : c.sheets[k]? = some x) : (chooseR c u s).length ≤ 32 ∧ ∀ f ∈ chooseR c u s, f ∈ x.facts ∧ 1 ≤ f.el ∧ f.el ≤ 64 ∧ f.text.size ≤ 4096 := by
  obtain ⟨-, -, -, hz4⟩ := catE_zero h0
  have hz5 := (hz4 x (List.mem_of_getElem? hx)).2.2
  have hl := fctE_len hz5
  unfold chooseR
  by_cases hr : rightB c s = false
  · rw [if_pos (.inl hr)]
    exact ⟨by simp, fun f hf => by cases hf⟩
  · rw [if_neg (by rw [hi]; intro h; rcases h with h | h; exact hr h; omega), hi, Int.toNat_natCast, hx, Option.map_some, Option.getD_some, ← choose_eq hz5]
    refine ⟨?_, fun f hf => ?_⟩
    · have := chooseG_len (prefF c.langs s) x.facts []
      rw [List.length_nil, Nat.zero_add] at this
      unfold chooseF
      omega
    · have hm := choose_mem hf
      exact ⟨hm, fctE_mem hz5 hm⟩
theorem flat_len {α : Type} {m : Nat} (g : α → List Post) : ∀ (l : List α), (∀ x ∈ l, (g x).length ≤ m) → (l.flatMap g).length ≤ l.length * m
  | [], _ => by simp
  | x :: r, h => by
    rw [List.flatMap_cons, List.length_append, List.length_cons, Nat.add_mul]
    have := h x List.mem_cons_self
    have := flat_len g r (fun y hy => h y (List.mem_cons_of_mem _ hy))
    omega
theorem raw_unit {c : Cat} {s : ByteArray} {u : Int} {p : Post} (h : p ∈ rawF c s u) : p.unit = u := by
  unfold rawF at h
  split at h
  · cases h
  · rcases List.mem_append.1 h with h | h
    · exact (putF_mem h).1
    · obtain ⟨f, -, hf⟩ := List.mem_flatMap.1 h
      exact (putF_mem hf).1
end Go.Proofs.YtpfngehledgkiaaGreat
