/- The program: a line's word and numbers. -/
import Derived.Test.YtenaifmkejmdaaaGreatDoorVar
import Derived.Test.YtenaifmkejmdaaaGreatDoorPrsR
import Derived.Test.YtenaifmkejmdaaaGreatDoorTwo
import Derived.Lib.AppendIntMem
namespace Go.Proofs.YtenaifmkejmdaaaGreatDoor
open Go.RowKit Go.Sort

theorem bytes_app (a b : ByteArray) : (a ++ b).data.toList = a.data.toList ++ b.data.toList := by
  rw [ByteArray.data_append, Array.toList_append]
theorem bytes_of {a : ByteArray} {l : List UInt8} (h : a.data.toList = l) : a = ⟨l.toArray⟩ := by
  subst h
  rfl
theorem bytes_size {a : ByteArray} {l : List UInt8} (h : a.data.toList = l) : a.size = l.length := by
  subst h
  rw [Array.length_toList]
  rfl
theorem lineT_snoc {word : List UInt8} {ns : List Int} {k : Nat} {n : Int} (h : ns[k]? = some n) : lineT word (ns.take (k + 1)) = lineT word (ns.take k) ++ ([32] ++ Lib.itoa n) := by
  unfold lineT
  rw [take_at h, List.flatMap_append]
  simp
theorem below_of_grow {w w' : World} (h : ∃ k os, w' = grow (w.drewN k) os) : Below w.heap.size w w' := by
  obtain ⟨k, os, rfl⟩ := h
  exact Lib.below_grow _ _ (Nat.le_refl _) k os
set_option maxRecDepth 100000 in
set_option maxHeartbeats 2000000 in
theorem line_c (word : ByteArray) (ns : List Int) (v : Value) (w : World) (B : Nat) (hB : B ≤ w.heap.size) (h : Ints w B ns v) (hV : VarOk w) (hn : ∀ n ∈ ns, 0 ≤ n ∧ n ≤ 1073741824) (hw : word.size ≤ 100) (hl : ns.length ≤ 10) :
    Calls Tryz.prog 40 #[.string word, v] w fun e w' => e = .returned (.string ⟨(lineT word.data.toList ns).toArray⟩) ∧ Below w.heap.size w w' := by
  obtain ⟨A, c, rfl, hc1, hc2, -⟩ := id h
  have H0 := Lib.hid (show word.data.toList = lineT word.data.toList (ns.take 0) by simp [lineT])
  have HI := Lib.hid (fun (n : Int) (hm : n ∈ ns) (W : World) (hW : Below w.heap.size w W) => (Tryz.strconv_Itoa n (by have := hn n hm; omega) (by have := hn n hm; omega) W (hV.below hW).tab))
  have HLN := Lib.hid (fun (k : Nat) => lineT_len word.data.toList (ns.take k) (fun n hm => hn n (List.mem_of_mem_take hm)))
  have HIL := Lib.hid (fun (n : Int) (hm : n ∈ ns) => (itoa_pos (hn n hm).1 (hn n hm).2).2.2)
  have HWS := Lib.hid (show word.data.toList.length = word.size from Array.length_toList)
  go_enter Tryz.func40, Tryz.ntmps40
  go_wp2
  go_loopw [0, 9] (fun s i wr => ∃ (k : Nat) (t : ByteArray), k ≤ ns.length ∧ i = .int .i64 k ∧ s = .string t ∧ Hid (t.data.toList = lineT word.data.toList (ns.take k)) ∧ Below w.heap.size w wr) (fun _ i _ => ns.length - (intOf i).toNat)
  case atStart => exact ⟨0, word, Nat.zero_le _, rfl, rfl, H0, Below.refl _ _⟩
  case round =>
    clear H0
    obtain ⟨k, t, hk, rfl, rfl, HT, hb⟩ := hrel
    by_cases hlt : k < ns.length
    · obtain ⟨n, hx⟩ := get_at ns hlt
      have hm := List.mem_of_getElem? hx
      obtain ⟨b, off, rfl, hbB, g0⟩ := Ints.at_ (h.below intS (hb.mono hB)) hx
      have hbw : b < wr.heap.size := by have : b < B := hbB; have := hb.size; omega
      have HN := Lib.hid (HI.out n hm wr hb)
      have HS := Lib.hid (lineT_snoc (word := word.data.toList) hx)
      have hil := HIL.out n hm
      have hts : t.size ≤ 300 := by
        rw [bytes_size HT.out]
        have h1 := HLN.out k
        rw [List.length_take, HWS.out] at h1
        omega
      have his : (⟨(Lib.itoa n).toArray⟩ : ByteArray).size ≤ 10 := by
        show (Lib.itoa n).toArray.size ≤ 10
        rw [List.size_toArray]
        exact hil
      have HTI := Lib.hid (show (⟨(Lib.itoa n).toArray⟩ : ByteArray).data.toList = Lib.itoa n from rfl)
      generalize (⟨(Lib.itoa n).toArray⟩ : ByteArray) = it at *
      have hs1 : (⟨#[32]⟩ ++ it : ByteArray).size = 1 + it.size := by rw [ByteArray.size_append]; rfl
      have hq1 : ¬ 9223372036854775807 < 1 + it.size := by omega
      have hq2 : ¬ 9223372036854775807 < t.size + (1 + it.size) := by omega
      have hki : (k : Int) < (ns.length : Int) := by omega
      clear hx hm hil
      go_wp2_with fail
      refine HN.out.mono ?_
      rintro e w1 ⟨rfl, hg1⟩
      have hb1 := below_of_grow hg1
      clear hg1
      go_wp2
      go_roundw
      case rel => exact ⟨k + 1, _, by omega, by go_num, rfl, Lib.hid (by rw [HS.out, bytes_app, bytes_app, HT.out, HTI.out]), hb.trans (hb1.mono hb.size)⟩
      case measure => simp [intOf]; omega
    · have HX := Lib.hid (show t = ⟨(lineT word.data.toList ns).toArray⟩ by
        have := HT.out
        rw [List.take_of_length_le (by omega)] at this
        exact bytes_of this)
      have hki : ¬ (k : Int) < (ns.length : Int) := by omega
      clear HT
      go_wp2
      go_ret
      exact ⟨ret_val (congrArg Value.string HX.out), hb⟩
end Go.Proofs.YtenaifmkejmdaaaGreatDoor
