/- desk.Parse at the document's line. -/
import Derived.Test.YtnkhakomjklfmaaDoorEV
import Derived.OwnWalk
namespace Go.Proofs.YtnkhakomjklfmaaDoor
set_option linter.unusedVariables false
set_option linter.unusedSimpArgs false
open Go.RowKit Go.Sort

def exS : ByteArray := ⟨#[50, 49, 32, 49, 32, 48, 32, 48, 32, 48, 32, 34, 34, 32, 34, 97, 34, 10]⟩
theorem exCut : Lib.cut exS.data.toList [10] = (exLine.data.toList, [], true) := by decide +kernel
theorem exCount : Lib.countByte exS.data.toList 10 = 1 := by decide +kernel
theorem info37 : (Tryd.prog.info? 37).map (fun i => (i.zero, i.size, i.bytes)) = some (some (.agg #[.int .i64 0, .int .i64 0, .int .i64 0, .int .i64 0, .int .i64 0, .string ⟨#[]⟩, .string ⟨#[]⟩, .slice none 0 0]), 8, 96) := by kernel_rfl
theorem cut_ex (s : ByteArray) (hs : s = exS) (m : Int) (w : World) (hm : w.cell? ⟨0, 0, none⟩ = some (.int .i64 m)) :
    Calls Tryd.prog 21 #[.string s, .string ⟨#[10]⟩] w fun e w' => e = .returned (.tuple #[.string exLine, .string ⟨#[]⟩, .bool true]) ∧ ∃ n, w' = w.drewN n := by
  subst hs
  have h := Tryd.strings_Cut exS ⟨#[10]⟩ m w (by decide) hm
  rw [show (⟨#[10]⟩ : ByteArray).data.toList = [10] from rfl, exCut] at h
  exact h
theorem count_ex (s : ByteArray) (hs : s = exS) (w : World) : Calls Tryd.prog 20 #[.string s, .string ⟨#[10]⟩] w fun e w' => e = .returned (.int .i64 1) ∧ w = w' := by
  subst hs
  refine (Tryd.strings_Count_one exS 10 w).mono ?_
  rintro e w' ⟨rfl, rfl⟩
  exact ⟨by rw [exCount]; rfl, rfl⟩

theorem drew_new (w : World) (arr : Array Value) (t : TypeId) (k : Nat) (h : k = w.heap.size) (j : Nat) : ((w.alloc (.cells arr t)).drew).cell? ⟨k, j, none⟩ = arr[j]? := by
  subst h
  exact Lib.cell_of_heap (w := w.alloc (.cells arr t)) (heap_alloc_new w _) j
structure exL (w wr : World) (v : Value) : Prop where
  sl : ∃ g c, v = .slice (some ⟨g, 0, none⟩) 1 c ∧ wr.cell? ⟨g, 0, none⟩ = some (.int .i64 21) ∧ wr.cell? ⟨g, 1, none⟩ = some (.int .i64 1) ∧ wr.cell? ⟨g, 6, none⟩ = some (.string ⟨#[97]⟩)

set_option maxHeartbeats 4000000 in
set_option maxRecDepth 100000 in
theorem parse_ex (m : Int) (s : ByteArray) (hs : s = exS) (w : World) (ht : Tab w) (hB : 8 ≤ w.heap.size) (hm : w.cell? ⟨0, 0, none⟩ = some (.int .i64 m)) :
    Calls Tryd.prog 10 #[.string s] w fun e w' => (∃ v, e = .returned (.tuple #[v, .int .i64 0, .int .i64 0]) ∧ exL w w' v) ∧ Below w.heap.size w w' := by
  have HSE := Lib.hid hs
  have hsz : s.size = 18 := by rw [hs]; rfl
  have hne : (s.toList == []) = false := by rw [hs, ByteArray.toList_eq]; rfl
  clear hs
  go_enter Tryd.func10, Tryd.ntmps10
  go_wp2_with fail
  refine (count_ex s HSE.out w).mono ?_
  rintro e w1 ⟨rfl, rfl⟩
  go_wp2_with fail
  go_loopw [0, 5] (fun q l wr => Below w.heap.size w wr ∧ ((q = .string s ∧ l = .slice none 0 0) ∨ (q = .string ⟨#[]⟩ ∧ exL w wr l))) (fun q _ _ => match q with | .string b => b.size | _ => 0)
  case atStart => exact ⟨Below.refl _ _, .inl ⟨rfl, rfl⟩⟩
  case round =>
    obtain ⟨HB, h | h⟩ := hrel
    · obtain ⟨rfl, rfl⟩ := h
      have HBL := Lib.hid HB
      clear HB
      go_wp2_with fail
      refine (cut_ex s HSE.out m wr (by rw [HBL.out.cell (by simp; omega)]; exact hm)).mono ?_
      rintro e w2 ⟨rfl, nq, rfl⟩
      have HB2 := Lib.hid (below_drewN HBL.out nq)
      clear HBL
      go_wp2_with fail
      refine (event_ex m _ (ht.below HB2.out hB) (Nat.le_trans hB HB2.out.size) (by rw [HB2.out.cell (by simp; omega)]; exact hm)).mono ?_
      rintro e w3 ⟨⟨A, c, rfl⟩, hb⟩
      have HB3 := Lib.hid (HB2.out.trans (hb.mono HB2.out.size))
      clear hb HB2
      unfold Ev.cells exEv
      go_wp2_with fail
      refine ⟨⟨?_, .inr ⟨rfl, _, _, rfl, ?_, ?_, ?_⟩⟩, ?_⟩
      · have h1 := HB3.out.alloc HB3.out.size (.cells #[.int .i64 21, .int .i64 1, .int .i64 0, .int .i64 0, .int .i64 0, .string ⟨#[]⟩, .string ⟨#[97]⟩, .slice A 0 c] 37)
        have h2 := h1.alloc h1.size (.cells #[.int .i64 21, .int .i64 1, .int .i64 0, .int .i64 0, .int .i64 0, .string ⟨#[]⟩, .string ⟨#[97]⟩, .slice A 0 c] 37)
        exact (h2.alloc h2.size _).drew
      · exact (drew_new ((w3.alloc _).alloc _) _ 37 _ (by simp) 0).trans ((Array.getElem?_append_left (show 0 < 8 by omega)).trans rfl)
      · exact (drew_new ((w3.alloc _).alloc _) _ 37 _ (by simp) 1).trans ((Array.getElem?_append_left (show 1 < 8 by omega)).trans rfl)
      · exact (drew_new ((w3.alloc _).alloc _) _ 37 _ (by simp) 6).trans ((Array.getElem?_append_left (show 6 < 8 by omega)).trans rfl)
      · show (0 : Nat) < s.size
        omega
    · obtain ⟨rfl, h⟩ := h
      go_wp2_with fail
      go_ret3
      exact ⟨⟨_, rfl, h⟩, HB⟩
end Go.Proofs.YtnkhakomjklfmaaDoor
