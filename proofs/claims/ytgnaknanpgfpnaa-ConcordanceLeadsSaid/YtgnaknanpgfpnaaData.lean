/- Chapter 49's data in Lean, and how they read in memory. -/
import Derived.Test.YtgnaknanpgfpnaaBase
namespace Go.Proofs.Ytgnaknanpgfpnaa
open Go.RowKit

structure Standing where
  unit : Int
  parent : Int
  level : Int
  mark : ByteArray
  title : ByteArray
structure Shot where
  day : Int
  units : List Standing
structure Given where
  mark : ByteArray
  unit : Int
  from_ : Int
  until_ : Int

def Standing.enc (s : Standing) : List Value := [.int .i64 s.unit, .int .i64 s.parent, .int .i64 s.level, .string s.mark, .string s.title]
def Given.enc (g : Given) : List Value := [.string g.mark, .int .i64 g.unit, .int .i64 g.from_, .int .i64 g.until_]

theorem stS : Shape 5 (flat Standing.enc) := flat_shape 5 _ (fun _ => rfl) (fun x u hu => by simp [Standing.enc] at hu; rcases hu with rfl | rfl | rfl | rfl | rfl <;> rfl)
theorem giS : Shape 4 (flat Given.enc) := flat_shape 4 _ (fun _ => rfl) (fun x u hu => by simp [Given.enc] at hu; rcases hu with rfl | rfl | rfl | rfl <;> rfl)
abbrev Units (w : World) (B : Nat) (xs : List Standing) (v : Value) : Prop := SlRep 5 (flat Standing.enc) w (fun b => b < B) xs v
def shotR : CRep Shot := fun w F x cs => ∃ v, cs = [.int .i64 x.day, v] ∧ SlRep 5 (flat Standing.enc) w F x.units v
theorem shS : Shape 2 shotR := ⟨fun hb ⟨v, h1, h2⟩ => ⟨v, h1, h2.frame stS hb⟩, fun hB ⟨v, h1, h2⟩ => ⟨v, h1, h2.monoF stS hB⟩, fun ⟨v, h1, _⟩ => by rw [h1]; rfl, fun ⟨v, h1, A, c, h2, _⟩ u hu => by
  subst h1 h2
  simp at hu
  rcases hu with rfl | rfl <;> rfl⟩
abbrev Shots (w : World) (B : Nat) (xs : List Shot) (v : Value) : Prop := SlRep 2 shotR w (fun b => b < B) xs v
abbrev Givens (w : World) (B : Nat) (xs : List Given) (v : Value) : Prop := SlRep 4 (flat Given.enc) w (fun b => b < B) xs v
def strEnc (s : ByteArray) : List Value := [.string s]
theorem srS : Shape 1 (flat strEnc) := flat_shape 1 _ (fun _ => rfl) (fun x u hu => by simp [strEnc] at hu; subst hu; rfl)
abbrev Strs (w : World) (B : Nat) (xs : List ByteArray) (v : Value) : Prop := SlRep 1 (flat strEnc) w (fun b => b < B) xs v
def pairEnc (s : ByteArray × ByteArray) : List Value := [.string s.1, .string s.2]
theorem paS : Shape 2 (flat pairEnc) := flat_shape 2 _ (fun _ => rfl) (fun x u hu => by simp [pairEnc] at hu; rcases hu with rfl | rfl <;> rfl)
abbrev Pairs (w : World) (B : Nat) (xs : List (ByteArray × ByteArray)) (v : Value) : Prop := SlRep 2 (flat pairEnc) w (fun b => b < B) xs v

theorem standingE : Elem Try.prog 59 46 5 56 := by
  obtain ⟨i, h1, h2, h3, h4⟩ := info_parts (P := Try.prog) (e := 46) (z := .agg #[.int .i64 0, .int .i64 0, .int .i64 0, .string ⟨#[]⟩, .string ⟨#[]⟩]) (size := 5) (bytes := 56) (by kernel_rfl)
  exact ⟨Try.underlying59, ⟨i, _, h1, h2, h3, h4, rfl⟩, by decide⟩
theorem shotE_ : Elem Try.prog 22 61 2 32 := by
  obtain ⟨i, h1, h2, h3, h4⟩ := info_parts (P := Try.prog) (e := 61) (z := .agg #[.int .i64 0, .slice none 0 0]) (size := 2) (bytes := 32) (by kernel_rfl)
  exact ⟨Try.underlying22, ⟨i, _, h1, h2, h3, h4, rfl⟩, by decide⟩
theorem givenE_ : Elem Try.prog 30 38 4 40 := by
  obtain ⟨i, h1, h2, h3, h4⟩ := info_parts (P := Try.prog) (e := 38) (z := .agg #[.string ⟨#[]⟩, .int .i64 0, .int .i64 0, .int .i64 0]) (size := 4) (bytes := 40) (by kernel_rfl)
  exact ⟨Try.underlying30, ⟨i, _, h1, h2, h3, h4, rfl⟩, by decide⟩
theorem stringE_ : Elem Try.prog 50 9 1 16 := by
  obtain ⟨i, h1, h2, h3, h4⟩ := info_parts (P := Try.prog) (e := 9) (z := .string ⟨#[]⟩) (size := 1) (bytes := 16) (by kernel_rfl)
  exact ⟨Try.underlying50, ⟨i, _, h1, h2, h3, h4, rfl⟩, by decide⟩
theorem pairE_ : Elem Try.prog 33 40 2 32 := by
  obtain ⟨i, h1, h2, h3, h4⟩ := info_parts (P := Try.prog) (e := 40) (z := .agg #[.string ⟨#[]⟩, .string ⟨#[]⟩]) (size := 2) (bytes := 32) (by kernel_rfl)
  exact ⟨Try.underlying33, ⟨i, _, h1, h2, h3, h4, rfl⟩, by decide⟩

section
variable {w : World} {B : Nat} {A : Option Addr} {n c i : Nat}
theorem Units.at_ {xs : List Standing} {x : Standing} (h : Units w B xs (.slice A n c)) (hx : xs[i]? = some x) :
    ∃ b off, A = some ⟨b, off, none⟩ ∧ b < B ∧ w.cell? ⟨b, off + i * 5, none⟩ = some (.int .i64 x.unit) ∧ w.cell? ⟨b, off + i * 5 + 1, none⟩ = some (.int .i64 x.parent) ∧
      w.cell? ⟨b, off + i * 5 + 2, none⟩ = some (.int .i64 x.level) ∧ w.cell? ⟨b, off + i * 5 + 3, none⟩ = some (.string x.mark) ∧ w.cell? ⟨b, off + i * 5 + 4, none⟩ = some (.string x.title) := by
  obtain ⟨A', c', e, h1, h2, h3⟩ := h
  obtain ⟨b, off, cs, hA, hlt, hr, hc⟩ := h3 i x hx
  injection e with e1 e2 e3
  subst e1 hr
  exact ⟨b, off, hA, hlt, hc 0 _ rfl, hc 1 _ rfl, hc 2 _ rfl, hc 3 _ rfl, hc 4 _ rfl⟩
theorem Shots.at_ {xs : List Shot} {x : Shot} (h : Shots w B xs (.slice A n c)) (hx : xs[i]? = some x) :
    ∃ b off v, A = some ⟨b, off, none⟩ ∧ b < B ∧ w.cell? ⟨b, off + i * 2, none⟩ = some (.int .i64 x.day) ∧ w.cell? ⟨b, off + i * 2 + 1, none⟩ = some v ∧ Units w B x.units v := by
  obtain ⟨A', c', e, h1, h2, h3⟩ := h
  obtain ⟨b, off, cs, hA, hlt, ⟨v, hcs, hv⟩, hc⟩ := h3 i x hx
  injection e with e1 e2 e3
  subst e1 hcs
  exact ⟨b, off, v, hA, hlt, hc 0 _ rfl, hc 1 _ rfl, hv⟩
theorem Givens.at_ {xs : List Given} {x : Given} (h : Givens w B xs (.slice A n c)) (hx : xs[i]? = some x) :
    ∃ b off, A = some ⟨b, off, none⟩ ∧ b < B ∧ w.cell? ⟨b, off + i * 4, none⟩ = some (.string x.mark) ∧ w.cell? ⟨b, off + i * 4 + 1, none⟩ = some (.int .i64 x.unit) ∧
      w.cell? ⟨b, off + i * 4 + 2, none⟩ = some (.int .i64 x.from_) ∧ w.cell? ⟨b, off + i * 4 + 3, none⟩ = some (.int .i64 x.until_) := by
  obtain ⟨A', c', e, h1, h2, h3⟩ := h
  obtain ⟨b, off, cs, hA, hlt, hr, hc⟩ := h3 i x hx
  injection e with e1 e2 e3
  subst e1 hr
  exact ⟨b, off, hA, hlt, hc 0 _ rfl, hc 1 _ rfl, hc 2 _ rfl, hc 3 _ rfl⟩
end
end Go.Proofs.Ytgnaknanpgfpnaa
