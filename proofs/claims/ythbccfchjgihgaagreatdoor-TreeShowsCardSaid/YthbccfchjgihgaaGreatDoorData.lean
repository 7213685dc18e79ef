/- Chapter 19's data in Lean, and how they read in memory. -/
import Derived.Test.YthbccfchjgihgaaGreatDoorBase
namespace Go.Proofs.YthbccfchjgihgaaGreatDoor
open Go.RowKit

def intEnc (x : Int) : List Value := [.int .i64 x]
theorem intS : Shape 1 (flat intEnc) := flat_shape 1 _ (fun _ => rfl) (fun x u hu => by simp [intEnc] at hu; subst hu; rfl)
abbrev Ints (w : World) (B : Nat) (xs : List Int) (v : Value) : Prop := SlRep 1 (flat intEnc) w (fun b => b < B) xs v
theorem intE_ : Elem Tryz.prog 22 3 1 8 := by
  obtain ⟨i, h1, h2, h3, h4⟩ := info_parts (P := Tryz.prog) (e := 3) (z := .int .i64 0) (size := 1) (bytes := 8) (by kernel_rfl)
  exact ⟨Tryz.underlying22, ⟨i, _, h1, h2, h3, h4, rfl⟩, by decide⟩
theorem Ints.at_ {w : World} {F : Nat → Prop} {A : Option Addr} {n c i : Nat} {xs : List Int} {x : Int} (h : SlRep 1 (flat intEnc) w F xs (.slice A n c)) (hx : xs[i]? = some x) : ∃ b off, A = some ⟨b, off, none⟩ ∧ F b ∧ w.cell? ⟨b, off + i, none⟩ = some (.int .i64 x) := by
  obtain ⟨A', c', e, h1, h2, h3⟩ := h
  obtain ⟨b, off, cs, hA, hlt, hr, hc⟩ := h3 i x hx
  injection e with e1 e2 e3
  subst e1 hr
  have := hc 0 _ rfl
  simp only [Nat.mul_one, Nat.add_zero] at this
  exact ⟨b, off, hA, hlt, this⟩
def strEnc (x : ByteArray) : List Value := [.string x]
theorem strS : Shape 1 (flat strEnc) := flat_shape 1 _ (fun _ => rfl) (fun x u hu => by simp [strEnc] at hu; subst hu; rfl)
abbrev Strs (w : World) (B : Nat) (xs : List ByteArray) (v : Value) : Prop := SlRep 1 (flat strEnc) w (fun b => b < B) xs v
theorem strE_ : Elem Tryz.prog 63 9 1 16 := by
  obtain ⟨i, h1, h2, h3, h4⟩ := info_parts (P := Tryz.prog) (e := 9) (z := .string ⟨#[]⟩) (size := 1) (bytes := 16) (by kernel_rfl)
  exact ⟨Tryz.underlying63, ⟨i, _, h1, h2, h3, h4, rfl⟩, by decide⟩
theorem Strs.at_ {w : World} {F : Nat → Prop} {A : Option Addr} {n c i : Nat} {xs : List ByteArray} {x : ByteArray} (h : SlRep 1 (flat strEnc) w F xs (.slice A n c)) (hx : xs[i]? = some x) : ∃ b off, A = some ⟨b, off, none⟩ ∧ F b ∧ w.cell? ⟨b, off + i, none⟩ = some (.string x) := by
  obtain ⟨A', c', e, h1, h2, h3⟩ := h
  obtain ⟨b, off, cs, hA, hlt, hr, hc⟩ := h3 i x hx
  injection e with e1 e2 e3
  subst e1 hr
  have := hc 0 _ rfl
  simp only [Nat.mul_one, Nat.add_zero] at this
  exact ⟨b, off, hA, hlt, this⟩
structure Brn where
  id : Int
  parent : Int
  level : Int
  title : ByteArray
  mark : ByteArray
  kids : List Int
def brnR : CRep Brn := fun w F x cs => ∃ v, cs = [.int .i64 x.id, .int .i64 x.parent, .int .i64 x.level, .string x.title, .string x.mark, v] ∧ SlRep 1 (flat intEnc) w F x.kids v
theorem brnS : Shape 6 brnR := ⟨fun hb ⟨v, h1, g0⟩ => ⟨v, h1, g0.frame intS hb⟩, fun hb ⟨v, h1, g0⟩ => ⟨v, h1, g0.monoF intS hb⟩, fun ⟨v, h1, _⟩ => by rw [h1]; rfl, fun ⟨v, h1, g0⟩ u hu => by
  obtain ⟨_, _, e0, _⟩ := g0
  subst h1 e0
  simp at hu
  rcases hu with rfl | rfl | rfl | rfl | rfl | rfl <;> rfl⟩
abbrev Brns (w : World) (B : Nat) (xs : List Brn) (v : Value) : Prop := SlRep 6 brnR w (fun b => b < B) xs v
theorem brnE_ : Elem Tryz.prog 23 60 6 80 := by
  obtain ⟨i, h1, h2, h3, h4⟩ := info_parts (P := Tryz.prog) (e := 60) (z := .agg #[.int .i64 0, .int .i64 0, .int .i64 0, .string ⟨#[]⟩, .string ⟨#[]⟩, .slice none 0 0]) (size := 6) (bytes := 80) (by kernel_rfl)
  exact ⟨Tryz.underlying23, ⟨i, _, h1, h2, h3, h4, rfl⟩, by decide⟩
theorem Brns.at_ {w : World} {F : Nat → Prop} {A : Option Addr} {n c i : Nat} {xs : List Brn} {x : Brn} (h : SlRep 6 brnR w F xs (.slice A n c)) (hx : xs[i]? = some x) : ∃ b off v, A = some ⟨b, off, none⟩ ∧ F b ∧ w.cell? ⟨b, off + i * 6, none⟩ = some (.int .i64 x.id) ∧ w.cell? ⟨b, off + i * 6 + 1, none⟩ = some (.int .i64 x.parent) ∧ w.cell? ⟨b, off + i * 6 + 2, none⟩ = some (.int .i64 x.level) ∧ w.cell? ⟨b, off + i * 6 + 3, none⟩ = some (.string x.title) ∧ w.cell? ⟨b, off + i * 6 + 4, none⟩ = some (.string x.mark) ∧ w.cell? ⟨b, off + i * 6 + 5, none⟩ = some (v) ∧ SlRep 1 (flat intEnc) w F x.kids v := by
  obtain ⟨A', c', e, h1, h2, h3⟩ := h
  obtain ⟨b, off, cs, hA, hlt, ⟨v, hcs, g0⟩, hc⟩ := h3 i x hx
  injection e with e1 e2 e3
  subst e1 hcs
  exact ⟨b, off, v, hA, hlt, hc 0 _ rfl, hc 1 _ rfl, hc 2 _ rfl, hc 3 _ rfl, hc 4 _ rfl, hc 5 _ rfl, g0⟩
structure Came where
  unit : Int
  office : Int
  accession : Int
  number : Int
def Came.enc (x : Came) : List Value := [.int .i64 x.unit, .int .i64 x.office, .int .i64 x.accession, .int .i64 x.number]
theorem camS : Shape 4 (flat Came.enc) := flat_shape 4 _ (fun _ => rfl) (fun x u hu => by simp [Came.enc] at hu; rcases hu with rfl | rfl | rfl | rfl <;> rfl)
abbrev Cames (w : World) (B : Nat) (xs : List Came) (v : Value) : Prop := SlRep 4 (flat Came.enc) w (fun b => b < B) xs v
theorem camE_ : Elem Tryz.prog 45 54 4 32 := by
  obtain ⟨i, h1, h2, h3, h4⟩ := info_parts (P := Tryz.prog) (e := 54) (z := .agg #[.int .i64 0, .int .i64 0, .int .i64 0, .int .i64 0]) (size := 4) (bytes := 32) (by kernel_rfl)
  exact ⟨Tryz.underlying45, ⟨i, _, h1, h2, h3, h4, rfl⟩, by decide⟩
theorem Cames.at_ {w : World} {F : Nat → Prop} {A : Option Addr} {n c i : Nat} {xs : List Came} {x : Came} (h : SlRep 4 (flat Came.enc) w F xs (.slice A n c)) (hx : xs[i]? = some x) : ∃ b off, A = some ⟨b, off, none⟩ ∧ F b ∧ w.cell? ⟨b, off + i * 4, none⟩ = some (.int .i64 x.unit) ∧ w.cell? ⟨b, off + i * 4 + 1, none⟩ = some (.int .i64 x.office) ∧ w.cell? ⟨b, off + i * 4 + 2, none⟩ = some (.int .i64 x.accession) ∧ w.cell? ⟨b, off + i * 4 + 3, none⟩ = some (.int .i64 x.number) := by
  obtain ⟨A', c', e, h1, h2, h3⟩ := h
  obtain ⟨b, off, cs, hA, hlt, hr, hc⟩ := h3 i x hx
  injection e with e1 e2 e3
  subst e1 hr
  exact ⟨b, off, hA, hlt, hc 0 _ rfl, hc 1 _ rfl, hc 2 _ rfl, hc 3 _ rfl⟩
structure RowT where
  unit : Int
  parent : Int
  accession : Int
def RowT.enc (x : RowT) : List Value := [.int .i64 x.unit, .int .i64 x.parent, .int .i64 x.accession]
theorem rwtS : Shape 3 (flat RowT.enc) := flat_shape 3 _ (fun _ => rfl) (fun x u hu => by simp [RowT.enc] at hu; rcases hu with rfl | rfl | rfl <;> rfl)
abbrev RowTs (w : World) (B : Nat) (xs : List RowT) (v : Value) : Prop := SlRep 3 (flat RowT.enc) w (fun b => b < B) xs v
theorem rwtE_ : Elem Tryz.prog 47 89 3 24 := by
  obtain ⟨i, h1, h2, h3, h4⟩ := info_parts (P := Tryz.prog) (e := 89) (z := .agg #[.int .i64 0, .int .i64 0, .int .i64 0]) (size := 3) (bytes := 24) (by kernel_rfl)
  exact ⟨Tryz.underlying47, ⟨i, _, h1, h2, h3, h4, rfl⟩, by decide⟩
theorem RowTs.at_ {w : World} {F : Nat → Prop} {A : Option Addr} {n c i : Nat} {xs : List RowT} {x : RowT} (h : SlRep 3 (flat RowT.enc) w F xs (.slice A n c)) (hx : xs[i]? = some x) : ∃ b off, A = some ⟨b, off, none⟩ ∧ F b ∧ w.cell? ⟨b, off + i * 3, none⟩ = some (.int .i64 x.unit) ∧ w.cell? ⟨b, off + i * 3 + 1, none⟩ = some (.int .i64 x.parent) ∧ w.cell? ⟨b, off + i * 3 + 2, none⟩ = some (.int .i64 x.accession) := by
  obtain ⟨A', c', e, h1, h2, h3⟩ := h
  obtain ⟨b, off, cs, hA, hlt, hr, hc⟩ := h3 i x hx
  injection e with e1 e2 e3
  subst e1 hr
  exact ⟨b, off, hA, hlt, hc 0 _ rfl, hc 1 _ rfl, hc 2 _ rfl⟩
end Go.Proofs.YthbccfchjgihgaaGreatDoor
