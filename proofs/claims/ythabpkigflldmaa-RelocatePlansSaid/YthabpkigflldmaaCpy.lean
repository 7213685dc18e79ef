/- Copy of boxes; the rooms' all and few; the example's rooms. -/
import Derived.Test.YthabpkigflldmaaRch
namespace Go.Proofs.Ythabpkigflldmaa
open Go.RowKit

theorem OwnRep.boxAt {e : TypeId} {base g n cap : Nat} {w : World} {xs : List Box} (h : OwnRep 5 boxR e base w xs (.slice (some ⟨g, 0, none⟩) n cap)) {i : Nat} {x : Box} (hx : xs[i]? = some x) :
    ∃ v, w.cell? ⟨g, i * 5 + 4, none⟩ = some v ∧ w.frozen? ⟨g, i * 5 + 4, none⟩ = false ∧ SlRep 2 (flat Content.enc) w (fun b => b < w.heap.size ∧ b ≠ g) x.cont v := by
  obtain ⟨css, hl, hr, hown⟩ := h
  obtain ⟨cs, hcs⟩ := get_at css (show i < css.length by rw [hl]; exact lt_of_at hx)
  obtain ⟨v, h1, h2⟩ := hr i x cs hx hcs
  refine ⟨v, ?_, ?_, h2.monoF coS (fun b hb => ⟨hb.1, fun e => hb.2 (by rw [e]; rfl)⟩)⟩
  · have := hown.cells (g := g) rfl (i * 5 + 4) v (flatten_at boS hl hr i x cs 4 v hx hcs (by rw [h1]; rfl))
    rwa [Addr.add_lit, Nat.zero_add] at this
  · rcases hown.2 with ⟨h0, _⟩ | ⟨g', cap', cur, hv, _, hg, _⟩
    · cases h0
    · injection hv with hv1
      injection hv1 with hv1
      injection hv1 with hv1
      subst hv1
      simp [World.frozen?, hg]
theorem OwnRep.setBox {e : TypeId} {base g n cap : Nat} {w : World} {xs : List Box} (h : OwnRep 5 boxR e base w xs (.slice (some ⟨g, 0, none⟩) n cap)) {i : Nat} {x : Box} {u : Value} (hx : xs[i]? = some x) (hu : SlRep 2 (flat Content.enc) w (fun b => b < w.heap.size ∧ b ≠ g) x.cont u) :
    OwnRep 5 boxR e base (w.setCell ⟨g, i * 5 + 4, none⟩ u) xs (.slice (some ⟨g, 0, none⟩) n cap) := by
  obtain ⟨css, hl, hr, hown⟩ := h
  have hil := lt_of_at hx
  obtain ⟨cs, hcs⟩ := get_at css (show i < css.length by omega)
  obtain ⟨v, h1, h2⟩ := hr i x cs hx hcs
  have hfr : ∀ b, (b < w.heap.size ∧ (Value.slice (some ⟨g, 0, none⟩) n cap).ownBlock ≠ some b) → (w.setCell ⟨g, i * 5 + 4, none⟩ u).heap[b]? = w.heap[b]? := fun b hb => Below.heap_setCell _ _ _ _ (fun e => hb.2 (by rw [e]; rfl))
  have hlk : ∀ c ∈ css, c.length = 5 := fun c hc => by
    obtain ⟨j, hj⟩ := List.getElem?_of_mem hc
    obtain ⟨y, hy⟩ := get_at xs (show j < xs.length by have := lt_of_at hj; omega)
    exact boS.len (hr j y c hy hj)
  refine ⟨css.set i (cs.set 4 u), by simp [hl], fun j y ds hy hds => ?_, ?_⟩
  · rw [List.getElem?_set] at hds
    by_cases hij : i = j
    · subst hij
      rw [if_pos rfl, if_pos (by omega)] at hds
      injection hds with hds
      rw [hx] at hy
      injection hy with hy
      subst hds hy h1
      exact ⟨u, rfl, (hu.frame coS (fun b hb => hfr b ⟨hb.1, fun e => hb.2 (by injection e with e; exact e.symm)⟩)).monoF coS (fun b hb => ⟨by simpa using hb.1, fun e => hb.2 (by injection e with e; exact e.symm)⟩)⟩
    · rw [if_neg hij] at hds
      exact boS.mono (fun b hb => ⟨by simpa using hb.1, hb.2⟩) (boS.frame hfr (hr j y ds hy hds))
  · have hf := flatten_set css i 4 cs u hlk hcs (by omega)
    rcases hown.2 with ⟨h0, _⟩ | ⟨g', cap', cur, hv, hbg, hg, hcap, hm, hs, ht⟩
    · cases h0
    · injection hv with hv1 hv2 hv3
      injection hv1 with hv1
      injection hv1 with hv1
      subst hv1 hv2 hv3
      refine ⟨by rw [hf, List.length_set]; exact hown.1, .inr ⟨g, cap, cur.setIfInBounds (i * 5 + 4) u, rfl, hbg, ?_, hcap, hm, by simpa using hs, ?_⟩⟩
      · simp [World.setCell, Array.getElem?_modify, hg]
      · rw [hf, Array.toList_setIfInBounds, List.take_set, ht]
set_option maxRecDepth 10000 in
set_option maxHeartbeats 2000000 in
theorem copy_c (bs : List Box) (v : Value) (w : World) (B : Nat) (hB : B ≤ w.heap.size) (h : Boxes w B bs v) (hn : bs.length ≤ 1000) (hc : ∀ b ∈ bs, b.cont.length ≤ 1000) :
    Calls Try.prog 40 #[v] w fun e w' => ∃ v', e = .returned v' ∧ Boxes w' w'.heap.size bs v' ∧ Below w.heap.size w w' := by
  obtain ⟨A, c, rfl, hc1, hc2, _⟩ := id h
  have HC := Lib.hid hc
  clear hc
  go_enter Try.func40, Try.ntmps40
  go_wp2_with (at_builtin; refine stop_intro ?_)
  refine stop_elim ?_
  refine wpList_append_rep rfl boS boxE_ w.heap.size (.tmp 5) (.tmp 6) rfl rfl (OwnRep.empty_new ?hg ?hb) rfl (ys := bs) (F := fun b => b < B) ?src ?F ?n (by decide) ?hbase ?_
  case hb => exact Nat.le_refl _
  case hg => rfl
  case src => exact h.below boS ((Below.refl _ _).alloc (by omega) _)
  case F => intro b' (hb' : b' < B); exact ⟨by simp only [World.size_alloc]; omega, show some w.heap.size ≠ some b' by simp; omega⟩
  case hbase => simp only [World.size_alloc]; omega
  case n => simp; omega
  intro v1 w1 hown hg1 hat1
  rw [List.nil_append] at hown
  have hb : Below w.heap.size w w1 := ((Below.refl _ _).alloc (Nat.le_refl _) _).trans ((Below.refl _ _).grown hg1 (by simp) (fun k hk => by cases hk; exact Nat.le_refl _))
  clear hg1 hat1
  obtain ⟨A1, c1, rfl, hca, hcb, -⟩ := id (hown.toSl boS)
  go_wp2
  go_loopw [10] (fun i wr => ∃ k : Nat, k ≤ bs.length ∧ i = .int .i64 k ∧ OwnRep 5 boxR 101 w.heap.size wr bs (.slice A1 bs.length c1) ∧ Below w.heap.size w wr) (fun i _ => bs.length - (intOf i).toNat)
  case atStart => exact ⟨0, Nat.zero_le _, rfl, hown, hb⟩
  case round =>
    clear hown hb
    obtain ⟨k, hk, rfl, hown, hb⟩ := hrel
    by_cases hlt : k < bs.length
    · obtain ⟨x, hx⟩ := get_at bs hlt
      have hxl := HC.out x (List.mem_of_getElem? hx)
      have hlto := hown.own_lt
      obtain ⟨g, rfl⟩ : ∃ g, A1 = some ⟨g, 0, none⟩ := by
        obtain ⟨_, _, _, hrow⟩ := id hown
        rcases hrow.2 with ⟨h0, _⟩ | ⟨g, cap, cur, h1, _⟩
        · injection h0 with _ h2; omega
        · injection h1 with h1; exact ⟨g, h1⟩
      obtain ⟨vx, x0, xf, hvx⟩ := hown.boxAt hx
      obtain ⟨hg1, hg2⟩ := hlto g rfl
      obtain ⟨Ax, cx, rfl, hx1, hx2, -⟩ := id hvx
      have hki : (k : Int) < (bs.length : Int) := by omega
      have ba : Below wr.heap.size wr (wr.alloc (.cells #[] 138)) := (Below.refl _ _).alloc (Nat.le_refl _) _
      go_wp2_with (at_builtin; refine stop_intro ?_)
      refine stop_elim ?_
      refine wpList_append_rep rfl coS contE_ wr.heap.size (.tmp 15) (.tmp 20) rfl rfl (OwnRep.empty_new ?hg ?hb) rfl (ys := x.cont) (F := fun b => b < wr.heap.size ∧ b ≠ g) ?src ?F ?n (by decide) ?hbase ?_
      case hb => exact Nat.le_refl _
      case hg => rfl
      case src => exact hvx.frame coS (fun b hb' => ba.block b hb'.1)
      case F => intro b' hb'; exact ⟨by simp only [World.size_alloc]; omega, show some wr.heap.size ≠ some b' by simp; omega⟩
      case hbase => simp only [World.size_alloc]; omega
      case n => simp; omega
      intro v2 w2 hown2 hg2' hat2
      rw [List.nil_append] at hown2
      have hb2 : Below wr.heap.size wr w2 := ba.trans ((Below.refl _ _).grown hg2' (by simp) (fun k hk => by cases hk; exact Nat.le_refl _))
      have hs2 := hb2.size
      have hlt2 := hown2.own_lt
      have hownB := hown.below boS hb2
      obtain ⟨vy, y0, yf, hvy⟩ := hownB.boxAt hx
      obtain ⟨A2, c2, rfl, -⟩ := id (hown2.toSl coS)
      have hu : SlRep 2 (flat Content.enc) w2 (fun b => b < w2.heap.size ∧ b ≠ g) x.cont (.slice A2 x.cont.length c2) := (hown2.toFlat coS).monoF coS (fun b hb' => by have := hlt2 b hb'; exact ⟨this.2, by omega⟩)
      have hown3 := hownB.setBox hx hu
      have hb3 := (hb.trans (hb2.mono hb.size)).setCell (p := ⟨g, k * 5 + 4, none⟩) (by show w.heap.size ≤ g; omega) (.slice A2 x.cont.length c2)
      have hgl : g < w2.heap.size := by omega
      clear hx hown hownB hown2 hg2' hat2 x0 xf
      go_wp2
      go_roundw
      case rel => exact ⟨k + 1, by omega, by go_num, hown3, hb3⟩
      case measure => simp [intOf]; omega
    · go_wp2
      go_ret
      exact ⟨_, rfl, hown.toSl boS, hb⟩
abbrev roomsC (vl vb : Value) : Obj := .cells #[vl, vb] 25
set_option maxRecDepth 10000 in
set_option maxHeartbeats 2000000 in
theorem all_c (ls : List Shelf) (bs : List Box) (vl vb : Value) (w : World) (B : Nat) (hB : B ≤ w.heap.size) (hl : Shelves w B ls vl) (hbx : Boxes w B bs vb) (hln : ls.length ≤ 1000) (hn : bs.length ≤ 1000) (hc : ∀ b ∈ bs, b.cont.length ≤ 1000) :
    Calls Try.prog 12 #[.agg #[vl, vb]] w fun e w' => ∃ v1 v2, e = .returned (.tuple #[v1, v2]) ∧ Shelves w' w'.heap.size ls v1 ∧ Boxes w' w'.heap.size bs v2 ∧ Below w.heap.size w w' := by
  have b0 : Below w.heap.size w (w.alloc (roomsC vl vb)) := (Below.refl _ _).alloc (Nat.le_refl _) _
  have HCL := Lib.hid (fun (W : World) (hW : Below w.heap.size w W) => cloneH_c ls vl W B (Nat.le_trans hB hW.size) (hl.below shS (hW.mono hB)) (by omega))
  have HCP := Lib.hid (fun (W : World) (hW : Below w.heap.size w W) => copy_c bs vb W B (Nat.le_trans hB hW.size) (hbx.below boS (hW.mono hB)) hn hc)
  clear hc
  obtain ⟨A, c, rfl, hc1, hc2, _⟩ := id hl
  obtain ⟨A', c', rfl, hd1, hd2, _⟩ := id hbx
  have KEEP := Lib.hid (fun (w' : World) (hW : Below (w.heap.size + 1) (w.alloc (roomsC (.slice A ls.length c) (.slice A' bs.length c'))) w') => (⟨(hW.cell (p := ⟨w.heap.size, 0, none⟩) (by simp)).trans (by simp), (hW.cell (p := ⟨w.heap.size, 1, none⟩) (by simp)).trans (by simp)⟩ : w'.cell? ⟨w.heap.size, 0, none⟩ = some (.slice A ls.length c) ∧ w'.cell? ⟨w.heap.size, 1, none⟩ = some (.slice A' bs.length c')))
  have hbX : Below (w.heap.size + 1) (w.alloc (roomsC (.slice A ls.length c) (.slice A' bs.length c'))) (w.alloc (roomsC (.slice A ls.length c) (.slice A' bs.length c'))).drew := (Below.refl _ _).drew
  have kL : Shelves (w.alloc (roomsC (.slice A ls.length c) (.slice A' bs.length c'))).drew (w.alloc (roomsC (.slice A ls.length c) (.slice A' bs.length c'))).drew.heap.size [] (.slice none 0 0) := SlRep.nil_
  have kB : Boxes (w.alloc (roomsC (.slice A ls.length c) (.slice A' bs.length c'))).drew (w.alloc (roomsC (.slice A ls.length c) (.slice A' bs.length c'))).drew.heap.size [] (.slice none 0 0) := SlRep.nil_
  go_enter Try.func12, Try.ntmps12
  go_wp2
  go_region_held3 (fun w' => w'.cell? ⟨w.heap.size, 0, none⟩ = some (.slice A ls.length c) ∧ w'.cell? ⟨w.heap.size, 1, none⟩ = some (.slice A' bs.length c')) (with_reducible exact KEEP.out _ hbX) (first
    | (go_at_call 39; (with_reducible refine (HCL.out _ (b0.trans (hbX.mono (by omega)))).mono ?_); rintro e wC ⟨vC, rfl, hownC, hb'⟩; have kB := (kB.below boS hb').mono boS hb'.size; have kL := hownC.toSl shS; have hbX := hbX.trans (hb'.mono (by have := hbX.size; simp only [World.size_alloc] at this; omega)))
    | (go_at_call 40; (with_reducible refine (HCP.out _ (b0.trans (hbX.mono (by omega)))).mono ?_); rintro e wP ⟨vP, rfl, hP, hb'⟩; have kL := (kL.below shS hb').mono shS hb'.size; have kB := hP; have hbX := hbX.trans (hb'.mono (by have := hbX.size; simp only [World.size_alloc] at this; omega))))
  all_goals go_wp2
  all_goals go_ret2
  all_goals exact ⟨_, _, rfl, kL, kB, b0.trans (hbX.mono (by omega))⟩
end Go.Proofs.Ythabpkigflldmaa
