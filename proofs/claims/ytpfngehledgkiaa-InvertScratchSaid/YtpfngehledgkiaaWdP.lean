/- Plain: the words of a text. -/
import Derived.Test.YtpfngehledgkiaaIvP
namespace Go.Proofs.Ytpfngehledgkiaa
open Go.RowKit

def lowB (c : UInt8) : UInt8 := if 65 ≤ c.toNat ∧ c.toNat ≤ 90 then c + 32 else c
def plnB (c : UInt8) : Bool := decide (97 ≤ c.toNat ∧ c.toNat ≤ 122) || decide (48 ≤ c.toNat ∧ c.toNat ≤ 57)
/-- what a word that ends gives -/
def endW (cur : List UInt8) : List ByteArray := if cur = [] then [] else [⟨cur.toArray⟩]
def wordsG : List UInt8 → List UInt8 → List ByteArray
  | cur, [] => endW cur
  | cur, b :: r => if plnB (lowB b) = true then wordsG (cur ++ [lowB b]) r else endW cur ++ wordsG [] r
def wordsF (s : ByteArray) : List ByteArray := wordsG [] s.data.toList
/-- a word as it stands in a list -/
def wordB (w : ByteArray) : Bool := decide (w.size ≠ 0) && w.data.toList.all plnB
theorem wordsG_mem : ∀ (r cur : List UInt8), (∀ c ∈ cur, plnB c = true) → ∀ w ∈ wordsG cur r, wordB w = true ∧ w.size ≤ cur.length + r.length
  | [], cur, hc, w, hw => by
    unfold wordsG endW at hw
    split at hw
    · simp at hw
    · rename_i hne
      simp only [List.mem_singleton] at hw
      subst hw
      refine ⟨?_, by simp [ByteArray.size]⟩
      unfold wordB
      have : cur.length ≠ 0 := fun e => hne (List.eq_nil_of_length_eq_zero e)
      simp [ByteArray.size, hne]
      exact hc
  | b :: r, cur, hc, w, hw => by
    unfold wordsG at hw
    split at hw
    · rename_i hb
      have := wordsG_mem r (cur ++ [lowB b]) (fun c h => by rcases List.mem_append.1 h with h | h; exact hc c h; simp at h; rw [h]; exact hb) w hw
      refine ⟨this.1, ?_⟩
      have h2 := this.2
      simp only [List.length_append, List.length_cons, List.length_nil] at h2 ⊢
      omega
    · rcases List.mem_append.1 hw with hw | hw
      · have := wordsG_mem [] cur hc w hw
        refine ⟨this.1, ?_⟩
        have h2 := this.2
        simp only [List.length_cons, List.length_nil] at h2 ⊢
        omega
      · have := wordsG_mem r [] (fun _ h => by simp at h) w hw
        refine ⟨this.1, ?_⟩
        have h2 := this.2
        simp only [List.length_cons, List.length_nil] at h2 ⊢
        omega
theorem wordsG_len : ∀ (r cur : List UInt8), (wordsG cur r).length ≤ r.length + if cur = [] then 0 else 1
  | [], cur => by
    unfold wordsG endW
    split <;> simp
  | b :: r, cur => by
    unfold wordsG
    split
    · have h := wordsG_len r (cur ++ [lowB b])
      rw [if_neg (by simp)] at h
      simp only [List.length_cons]
      omega
    · have h := wordsG_len r []
      rw [if_pos rfl] at h
      rw [List.length_append, List.length_cons]
      unfold endW
      split <;> simp <;> omega
theorem size_listW (s : ByteArray) : s.data.toList.length = s.size := Array.length_toList
theorem wordsF_mem {s w : ByteArray} (h : w ∈ wordsF s) : wordB w = true ∧ w.size ≤ s.size := by
  have h2 := wordsG_mem s.data.toList [] (fun _ h => by simp at h) w h
  rw [List.length_nil, Nat.zero_add, size_listW] at h2
  exact h2
theorem wordsF_len (s : ByteArray) : (wordsF s).length ≤ s.size := by
  have h := wordsG_len s.data.toList []
  rw [if_pos rfl, Nat.add_zero, size_listW] at h
  exact h
/-- the postings of a field -/
def putG (u n : Int) : Nat → List ByteArray → List Post
  | _, [] => []
  | i, w :: r => ⟨w, u, n, i⟩ :: putG u n (i + 1) r
def putF (u n : Int) (t : ByteArray) : List Post := putG u n 0 (wordsF t)
theorem putG_len (u n : Int) : ∀ (l : List ByteArray) (i : Nat), (putG u n i l).length = l.length
  | [], _ => rfl
  | w :: r, i => by simp [putG, putG_len u n r]
theorem putG_at (u n : Int) : ∀ (l : List ByteArray) (i k : Nat) (w : ByteArray), l[k]? = some w → (putG u n i l)[k]? = some ⟨w, u, n, ((i + k : Nat) : Int)⟩
  | [], _, k, w, h => by simp at h
  | x :: r, i, 0, w, h => by simp at h; subst h; rfl
  | x :: r, i, k + 1, w, h => by
    have := putG_at u n r (i + 1) k w (by simpa using h)
    rw [putG, List.getElem?_cons_succ, this]
    congr 2; omega
theorem putG_mem {u n : Int} : ∀ {l : List ByteArray} {i : Nat} {p : Post}, p ∈ putG u n i l → p.unit = u ∧ p.field = n ∧ p.word ∈ l ∧ (i : Int) ≤ p.place ∧ p.place < ((i + l.length : Nat) : Int)
  | [], _, _, h => by simp [putG] at h
  | w :: r, i, p, h => by
    rcases List.mem_cons.1 h with rfl | h
    · exact ⟨rfl, rfl, List.mem_cons_self, by simp, by simp only [List.length_cons]; omega⟩
    · obtain ⟨h1, h2, h3, h4, h5⟩ := putG_mem h
      exact ⟨h1, h2, List.mem_cons_of_mem _ h3, by omega, by simp only [List.length_cons]; omega⟩
theorem putG_nodup (u n : Int) : ∀ (l : List ByteArray) (i : Nat), (putG u n i l).Nodup
  | [], _ => List.nodup_nil
  | w :: r, i => by
    refine List.nodup_cons.2 ⟨fun h => ?_, putG_nodup u n r (i + 1)⟩
    have := (putG_mem h).2.2.2.1
    simp only at this
    omega
theorem putF_mem {u n : Int} {t : ByteArray} {p : Post} (h : p ∈ putF u n t) : p.unit = u ∧ p.field = n ∧ wordB p.word = true ∧ p.word.size ≤ t.size ∧ 0 ≤ p.place ∧ p.place < t.size := by
  obtain ⟨h1, h2, h3, h4, h5⟩ := putG_mem h
  have := wordsF_len t
  exact ⟨h1, h2, (wordsF_mem h3).1, (wordsF_mem h3).2, by simpa using h4, by omega⟩
theorem putF_len (u n : Int) (t : ByteArray) : (putF u n t).length ≤ t.size := by
  unfold putF
  rw [putG_len]
  exact wordsF_len t
end Go.Proofs.Ytpfngehledgkiaa
