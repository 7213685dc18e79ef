/- Chapter 16's data in Lean, and how they read in memory. -/
import Derived.Test.YtenaifmkejmdaaaGreatDoorBase
namespace Go.Proofs.YtenaifmkejmdaaaGreatDoor
open Go.RowKit

def intEnc (x : Int) : List Value := [.int .i64 x]
theorem intS : Shape 1 (flat intEnc) := flat_shape 1 _ (fun _ => rfl) (fun x u hu => by simp [intEnc] at hu; subst hu; rfl)
abbrev Ints (w : World) (B : Nat) (xs : List Int) (v : Value) : Prop := SlRep 1 (flat intEnc) w (fun b => b < B) xs v
theorem intE_ : Elem Tryz.prog 33 3 1 8 := by
  obtain ⟨i, h1, h2, h3, h4⟩ := info_parts (P := Tryz.prog) (e := 3) (z := .int .i64 0) (size := 1) (bytes := 8) (by kernel_rfl)
  exact ⟨Tryz.underlying33, ⟨i, _, h1, h2, h3, h4, rfl⟩, by decide⟩
theorem Ints.at_ {w : World} {F : Nat → Prop} {A : Option Addr} {n c i : Nat} {xs : List Int} {x : Int} (h : SlRep 1 (flat intEnc) w F xs (.slice A n c)) (hx : xs[i]? = some x) : ∃ b off, A = some ⟨b, off, none⟩ ∧ F b ∧ w.cell? ⟨b, off + i, none⟩ = some (.int .i64 x) := by
  obtain ⟨A', c', e, h1, h2, h3⟩ := h
  obtain ⟨b, off, cs, hA, hlt, hr, hc⟩ := h3 i x hx
  injection e with e1 e2 e3
  subst e1 hr
  have := hc 0 _ rfl
  simp only [Nat.mul_one, Nat.add_zero] at this
  exact ⟨b, off, hA, hlt, this⟩
def strEnc (x : ByteArray) : List Value := [.string x]
theorem strS : Shape 1 (flat strEnc) := flat_shape 1 _ (fun _ => rfl) (fun x u hu => by simp [strEnc] at hu; subst hu; rfl)
abbrev Strs (w : World) (B : Nat) (xs : List ByteArray) (v : Value) : Prop := SlRep 1 (flat strEnc) w (fun b => b < B) xs v
theorem strE_ : Elem Tryz.prog 74 9 1 16 := by
  obtain ⟨i, h1, h2, h3, h4⟩ := info_parts (P := Tryz.prog) (e := 9) (z := .string ⟨#[]⟩) (size := 1) (bytes := 16) (by kernel_rfl)
  exact ⟨Tryz.underlying74, ⟨i, _, h1, h2, h3, h4, rfl⟩, by decide⟩
theorem Strs.at_ {w : World} {F : Nat → Prop} {A : Option Addr} {n c i : Nat} {xs : List ByteArray} {x : ByteArray} (h : SlRep 1 (flat strEnc) w F xs (.slice A n c)) (hx : xs[i]? = some x) : ∃ b off, A = some ⟨b, off, none⟩ ∧ F b ∧ w.cell? ⟨b, off + i, none⟩ = some (.string x) := by
  obtain ⟨A', c', e, h1, h2, h3⟩ := h
  obtain ⟨b, off, cs, hA, hlt, hr, hc⟩ := h3 i x hx
  injection e with e1 e2 e3
  subst e1 hr
  have := hc 0 _ rfl
  simp only [Nat.mul_one, Nat.add_zero] at this
  exact ⟨b, off, hA, hlt, this⟩
structure Item where
  number : Int
  file : Int
  title : ByteArray
  first : Int
  last : Int
  pages : Int
  digest : ByteArray
def Item.enc (x : Item) : List Value := [.int .i64 x.number, .int .i64 x.file, .string x.title, .int .i64 x.first, .int .i64 x.last, .int .i64 x.pages, .string x.digest]
theorem itmS : Shape 7 (flat Item.enc) := flat_shape 7 _ (fun _ => rfl) (fun x u hu => by simp [Item.enc] at hu; rcases hu with rfl | rfl | rfl | rfl | rfl | rfl | rfl <;> rfl)
abbrev Items (w : World) (B : Nat) (xs : List Item) (v : Value) : Prop := SlRep 7 (flat Item.enc) w (fun b => b < B) xs v
theorem itmE_ : Elem Tryz.prog 22 47 7 72 := by
  obtain ⟨i, h1, h2, h3, h4⟩ := info_parts (P := Tryz.prog) (e := 47) (z := .agg #[.int .i64 0, .int .i64 0, .string ⟨#[]⟩, .int .i64 0, .int .i64 0, .int .i64 0, .string ⟨#[]⟩]) (size := 7) (bytes := 72) (by kernel_rfl)
  exact ⟨Tryz.underlying22, ⟨i, _, h1, h2, h3, h4, rfl⟩, by decide⟩
theorem Items.at_ {w : World} {F : Nat → Prop} {A : Option Addr} {n c i : Nat} {xs : List Item} {x : Item} (h : SlRep 7 (flat Item.enc) w F xs (.slice A n c)) (hx : xs[i]? = some x) : ∃ b off, A = some ⟨b, off, none⟩ ∧ F b ∧ w.cell? ⟨b, off + i * 7, none⟩ = some (.int .i64 x.number) ∧ w.cell? ⟨b, off + i * 7 + 1, none⟩ = some (.int .i64 x.file) ∧ w.cell? ⟨b, off + i * 7 + 2, none⟩ = some (.string x.title) ∧ w.cell? ⟨b, off + i * 7 + 3, none⟩ = some (.int .i64 x.first) ∧ w.cell? ⟨b, off + i * 7 + 4, none⟩ = some (.int .i64 x.last) ∧ w.cell? ⟨b, off + i * 7 + 5, none⟩ = some (.int .i64 x.pages) ∧ w.cell? ⟨b, off + i * 7 + 6, none⟩ = some (.string x.digest) := by
  obtain ⟨A', c', e, h1, h2, h3⟩ := h
  obtain ⟨b, off, cs, hA, hlt, hr, hc⟩ := h3 i x hx
  injection e with e1 e2 e3
  subst e1 hr
  exact ⟨b, off, hA, hlt, hc 0 _ rfl, hc 1 _ rfl, hc 2 _ rfl, hc 3 _ rfl, hc 4 _ rfl, hc 5 _ rfl, hc 6 _ rfl⟩
end Go.Proofs.YtenaifmkejmdaaaGreatDoor
