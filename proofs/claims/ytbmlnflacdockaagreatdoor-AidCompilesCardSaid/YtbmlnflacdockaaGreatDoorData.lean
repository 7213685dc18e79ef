/- Chapter 47's data in Lean, and how they read in memory. -/
import Derived.Test.YtbmlnflacdockaaGreatDoorBase
namespace Go.Proofs.YtbmlnflacdockaaGreatDoor
open Go.RowKit

def intEnc (x : Int) : List Value := [.int .i64 x]
theorem intS : Shape 1 (flat intEnc) := flat_shape 1 _ (fun _ => rfl) (fun x u hu => by simp [intEnc] at hu; subst hu; rfl)
abbrev Ints (w : World) (B : Nat) (xs : List Int) (v : Value) : Prop := SlRep 1 (flat intEnc) w (fun b => b < B) xs v
theorem intE_ : Elem Tryz.prog 75 3 1 8 := by
  obtain ⟨i, h1, h2, h3, h4⟩ := info_parts (P := Tryz.prog) (e := 3) (z := .int .i64 0) (size := 1) (bytes := 8) (by kernel_rfl)
  exact ⟨Tryz.underlying75, ⟨i, _, h1, h2, h3, h4, rfl⟩, by decide⟩
theorem Ints.at_ {w : World} {F : Nat → Prop} {A : Option Addr} {n c i : Nat} {xs : List Int} {x : Int} (h : SlRep 1 (flat intEnc) w F xs (.slice A n c)) (hx : xs[i]? = some x) : ∃ b off, A = some ⟨b, off, none⟩ ∧ F b ∧ w.cell? ⟨b, off + i, none⟩ = some (.int .i64 x) := by
  obtain ⟨A', c', e, h1, h2, h3⟩ := h
  obtain ⟨b, off, cs, hA, hlt, hr, hc⟩ := h3 i x hx
  injection e with e1 e2 e3
  subst e1 hr
  have := hc 0 _ rfl
  simp only [Nat.mul_one, Nat.add_zero] at this
  exact ⟨b, off, hA, hlt, this⟩
def strEnc (x : ByteArray) : List Value := [.string x]
theorem strS : Shape 1 (flat strEnc) := flat_shape 1 _ (fun _ => rfl) (fun x u hu => by simp [strEnc] at hu; subst hu; rfl)
abbrev Strs (w : World) (B : Nat) (xs : List ByteArray) (v : Value) : Prop := SlRep 1 (flat strEnc) w (fun b => b < B) xs v
theorem strE_ : Elem Tryz.prog 22 9 1 16 := by
  obtain ⟨i, h1, h2, h3, h4⟩ := info_parts (P := Tryz.prog) (e := 9) (z := .string ⟨#[]⟩) (size := 1) (bytes := 16) (by kernel_rfl)
  exact ⟨Tryz.underlying22, ⟨i, _, h1, h2, h3, h4, rfl⟩, by decide⟩
theorem Strs.at_ {w : World} {F : Nat → Prop} {A : Option Addr} {n c i : Nat} {xs : List ByteArray} {x : ByteArray} (h : SlRep 1 (flat strEnc) w F xs (.slice A n c)) (hx : xs[i]? = some x) : ∃ b off, A = some ⟨b, off, none⟩ ∧ F b ∧ w.cell? ⟨b, off + i, none⟩ = some (.string x) := by
  obtain ⟨A', c', e, h1, h2, h3⟩ := h
  obtain ⟨b, off, cs, hA, hlt, hr, hc⟩ := h3 i x hx
  injection e with e1 e2 e3
  subst e1 hr
  have := hc 0 _ rfl
  simp only [Nat.mul_one, Nat.add_zero] at this
  exact ⟨b, off, hA, hlt, this⟩
structure Label where
  el : Int
  lang : ByteArray
  text : ByteArray
  idx : Int
def Label.enc (x : Label) : List Value := [.int .i64 x.el, .string x.lang, .string x.text, .int .i64 x.idx]
theorem labS : Shape 4 (flat Label.enc) := flat_shape 4 _ (fun _ => rfl) (fun x u hu => by simp [Label.enc] at hu; rcases hu with rfl | rfl | rfl | rfl <;> rfl)
abbrev Labels (w : World) (B : Nat) (xs : List Label) (v : Value) : Prop := SlRep 4 (flat Label.enc) w (fun b => b < B) xs v
theorem labE_ : Elem Tryz.prog 23 63 4 48 := by
  obtain ⟨i, h1, h2, h3, h4⟩ := info_parts (P := Tryz.prog) (e := 63) (z := .agg #[.int .i64 0, .string ⟨#[]⟩, .string ⟨#[]⟩, .int .i64 0]) (size := 4) (bytes := 48) (by kernel_rfl)
  exact ⟨Tryz.underlying23, ⟨i, _, h1, h2, h3, h4, rfl⟩, by decide⟩
theorem Labels.at_ {w : World} {F : Nat → Prop} {A : Option Addr} {n c i : Nat} {xs : List Label} {x : Label} (h : SlRep 4 (flat Label.enc) w F xs (.slice A n c)) (hx : xs[i]? = some x) : ∃ b off, A = some ⟨b, off, none⟩ ∧ F b ∧ w.cell? ⟨b, off + i * 4, none⟩ = some (.int .i64 x.el) ∧ w.cell? ⟨b, off + i * 4 + 1, none⟩ = some (.string x.lang) ∧ w.cell? ⟨b, off + i * 4 + 2, none⟩ = some (.string x.text) ∧ w.cell? ⟨b, off + i * 4 + 3, none⟩ = some (.int .i64 x.idx) := by
  obtain ⟨A', c', e, h1, h2, h3⟩ := h
  obtain ⟨b, off, cs, hA, hlt, hr, hc⟩ := h3 i x hx
  injection e with e1 e2 e3
  subst e1 hr
  exact ⟨b, off, hA, hlt, hc 0 _ rfl, hc 1 _ rfl, hc 2 _ rfl, hc 3 _ rfl⟩
structure Fact where
  el : Int
  lang : ByteArray
  text : ByteArray
def Fact.enc (x : Fact) : List Value := [.int .i64 x.el, .string x.lang, .string x.text]
theorem fctS : Shape 3 (flat Fact.enc) := flat_shape 3 _ (fun _ => rfl) (fun x u hu => by simp [Fact.enc] at hu; rcases hu with rfl | rfl | rfl <;> rfl)
abbrev Facts (w : World) (B : Nat) (xs : List Fact) (v : Value) : Prop := SlRep 3 (flat Fact.enc) w (fun b => b < B) xs v
theorem fctE_ : Elem Tryz.prog 47 49 3 40 := by
  obtain ⟨i, h1, h2, h3, h4⟩ := info_parts (P := Tryz.prog) (e := 49) (z := .agg #[.int .i64 0, .string ⟨#[]⟩, .string ⟨#[]⟩]) (size := 3) (bytes := 40) (by kernel_rfl)
  exact ⟨Tryz.underlying47, ⟨i, _, h1, h2, h3, h4, rfl⟩, by decide⟩
theorem Facts.at_ {w : World} {F : Nat → Prop} {A : Option Addr} {n c i : Nat} {xs : List Fact} {x : Fact} (h : SlRep 3 (flat Fact.enc) w F xs (.slice A n c)) (hx : xs[i]? = some x) : ∃ b off, A = some ⟨b, off, none⟩ ∧ F b ∧ w.cell? ⟨b, off + i * 3, none⟩ = some (.int .i64 x.el) ∧ w.cell? ⟨b, off + i * 3 + 1, none⟩ = some (.string x.lang) ∧ w.cell? ⟨b, off + i * 3 + 2, none⟩ = some (.string x.text) := by
  obtain ⟨A', c', e, h1, h2, h3⟩ := h
  obtain ⟨b, off, cs, hA, hlt, hr, hc⟩ := h3 i x hx
  injection e with e1 e2 e3
  subst e1 hr
  exact ⟨b, off, hA, hlt, hc 0 _ rfl, hc 1 _ rfl, hc 2 _ rfl⟩
structure Sheet where
  unit : Int
  parent : Int
  level : Int
  mark : ByteArray
  title : ByteArray
  facts : List Fact
def shtR : CRep Sheet := fun w F x cs => ∃ v, cs = [.int .i64 x.unit, .int .i64 x.parent, .int .i64 x.level, .string x.mark, .string x.title, v] ∧ SlRep 3 (flat Fact.enc) w F x.facts v
theorem shtS : Shape 6 shtR := ⟨fun hb ⟨v, h1, g0⟩ => ⟨v, h1, g0.frame fctS hb⟩, fun hb ⟨v, h1, g0⟩ => ⟨v, h1, g0.monoF fctS hb⟩, fun ⟨v, h1, _⟩ => by rw [h1]; rfl, fun ⟨v, h1, g0⟩ u hu => by
  obtain ⟨_, _, e0, _⟩ := g0
  subst h1 e0
  simp at hu
  rcases hu with rfl | rfl | rfl | rfl | rfl | rfl <;> rfl⟩
abbrev Sheets (w : World) (B : Nat) (xs : List Sheet) (v : Value) : Prop := SlRep 6 shtR w (fun b => b < B) xs v
theorem shtE_ : Elem Tryz.prog 24 65 6 80 := by
  obtain ⟨i, h1, h2, h3, h4⟩ := info_parts (P := Tryz.prog) (e := 65) (z := .agg #[.int .i64 0, .int .i64 0, .int .i64 0, .string ⟨#[]⟩, .string ⟨#[]⟩, .slice none 0 0]) (size := 6) (bytes := 80) (by kernel_rfl)
  exact ⟨Tryz.underlying24, ⟨i, _, h1, h2, h3, h4, rfl⟩, by decide⟩
theorem Sheets.at_ {w : World} {F : Nat → Prop} {A : Option Addr} {n c i : Nat} {xs : List Sheet} {x : Sheet} (h : SlRep 6 shtR w F xs (.slice A n c)) (hx : xs[i]? = some x) : ∃ b off v, A = some ⟨b, off, none⟩ ∧ F b ∧ w.cell? ⟨b, off + i * 6, none⟩ = some (.int .i64 x.unit) ∧ w.cell? ⟨b, off + i * 6 + 1, none⟩ = some (.int .i64 x.parent) ∧ w.cell? ⟨b, off + i * 6 + 2, none⟩ = some (.int .i64 x.level) ∧ w.cell? ⟨b, off + i * 6 + 3, none⟩ = some (.string x.mark) ∧ w.cell? ⟨b, off + i * 6 + 4, none⟩ = some (.string x.title) ∧ w.cell? ⟨b, off + i * 6 + 5, none⟩ = some (v) ∧ SlRep 3 (flat Fact.enc) w F x.facts v := by
  obtain ⟨A', c', e, h1, h2, h3⟩ := h
  obtain ⟨b, off, cs, hA, hlt, ⟨v, hcs, g0⟩, hc⟩ := h3 i x hx
  injection e with e1 e2 e3
  subst e1 hcs
  exact ⟨b, off, v, hA, hlt, hc 0 _ rfl, hc 1 _ rfl, hc 2 _ rfl, hc 3 _ rfl, hc 4 _ rfl, hc 5 _ rfl, g0⟩
structure Node where
  depth : Int
  tag : ByteArray
  text : ByteArray
def Node.enc (x : Node) : List Value := [.int .i64 x.depth, .string x.tag, .string x.text]
theorem nodS : Shape 3 (flat Node.enc) := flat_shape 3 _ (fun _ => rfl) (fun x u hu => by simp [Node.enc] at hu; rcases hu with rfl | rfl | rfl <;> rfl)
abbrev Nodes (w : World) (B : Nat) (xs : List Node) (v : Value) : Prop := SlRep 3 (flat Node.enc) w (fun b => b < B) xs v
theorem nodE_ : Elem Tryz.prog 56 61 3 40 := by
  obtain ⟨i, h1, h2, h3, h4⟩ := info_parts (P := Tryz.prog) (e := 61) (z := .agg #[.int .i64 0, .string ⟨#[]⟩, .string ⟨#[]⟩]) (size := 3) (bytes := 40) (by kernel_rfl)
  exact ⟨Tryz.underlying56, ⟨i, _, h1, h2, h3, h4, rfl⟩, by decide⟩
theorem Nodes.at_ {w : World} {F : Nat → Prop} {A : Option Addr} {n c i : Nat} {xs : List Node} {x : Node} (h : SlRep 3 (flat Node.enc) w F xs (.slice A n c)) (hx : xs[i]? = some x) : ∃ b off, A = some ⟨b, off, none⟩ ∧ F b ∧ w.cell? ⟨b, off + i * 3, none⟩ = some (.int .i64 x.depth) ∧ w.cell? ⟨b, off + i * 3 + 1, none⟩ = some (.string x.tag) ∧ w.cell? ⟨b, off + i * 3 + 2, none⟩ = some (.string x.text) := by
  obtain ⟨A', c', e, h1, h2, h3⟩ := h
  obtain ⟨b, off, cs, hA, hlt, hr, hc⟩ := h3 i x hx
  injection e with e1 e2 e3
  subst e1 hr
  exact ⟨b, off, hA, hlt, hc 0 _ rfl, hc 1 _ rfl, hc 2 _ rfl⟩
structure Sect where
  unit : Int
  number : ByteArray
  nodes : List Node
def secR : CRep Sect := fun w F x cs => ∃ v, cs = [.int .i64 x.unit, .string x.number, v] ∧ SlRep 3 (flat Node.enc) w F x.nodes v
theorem secS : Shape 3 secR := ⟨fun hb ⟨v, h1, g0⟩ => ⟨v, h1, g0.frame nodS hb⟩, fun hb ⟨v, h1, g0⟩ => ⟨v, h1, g0.monoF nodS hb⟩, fun ⟨v, h1, _⟩ => by rw [h1]; rfl, fun ⟨v, h1, g0⟩ u hu => by
  obtain ⟨_, _, e0, _⟩ := g0
  subst h1 e0
  simp at hu
  rcases hu with rfl | rfl | rfl <;> rfl⟩
abbrev Sects (w : World) (B : Nat) (xs : List Sect) (v : Value) : Prop := SlRep 3 secR w (fun b => b < B) xs v
theorem secE_ : Elem Tryz.prog 29 70 3 48 := by
  obtain ⟨i, h1, h2, h3, h4⟩ := info_parts (P := Tryz.prog) (e := 70) (z := .agg #[.int .i64 0, .string ⟨#[]⟩, .slice none 0 0]) (size := 3) (bytes := 48) (by kernel_rfl)
  exact ⟨Tryz.underlying29, ⟨i, _, h1, h2, h3, h4, rfl⟩, by decide⟩
theorem Sects.at_ {w : World} {F : Nat → Prop} {A : Option Addr} {n c i : Nat} {xs : List Sect} {x : Sect} (h : SlRep 3 secR w F xs (.slice A n c)) (hx : xs[i]? = some x) : ∃ b off v, A = some ⟨b, off, none⟩ ∧ F b ∧ w.cell? ⟨b, off + i * 3, none⟩ = some (.int .i64 x.unit) ∧ w.cell? ⟨b, off + i * 3 + 1, none⟩ = some (.string x.number) ∧ w.cell? ⟨b, off + i * 3 + 2, none⟩ = some (v) ∧ SlRep 3 (flat Node.enc) w F x.nodes v := by
  obtain ⟨A', c', e, h1, h2, h3⟩ := h
  obtain ⟨b, off, cs, hA, hlt, ⟨v, hcs, g0⟩, hc⟩ := h3 i x hx
  injection e with e1 e2 e3
  subst e1 hcs
  exact ⟨b, off, v, hA, hlt, hc 0 _ rfl, hc 1 _ rfl, hc 2 _ rfl, g0⟩
end Go.Proofs.YtbmlnflacdockaaGreatDoor
