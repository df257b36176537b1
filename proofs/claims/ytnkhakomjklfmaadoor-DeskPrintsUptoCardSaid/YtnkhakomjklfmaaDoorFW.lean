/- The law's own cut of the events. -/
import Derived.Test.YtnkhakomjklfmaaDoorPr
namespace Go.Proofs.YtnkhakomjklfmaaDoor
set_option linter.unusedVariables false
set_option linter.unusedSimpArgs false
open Go.RowKit Go.Sort PDeskPrints YtnkhakomjklfmaaDoorW.PrintWords

def cutEv (s : S37) : S37 := if s.f7.length > 300 then { s with f7 := s.f7.take 300 } else s
theorem cutEv_ok {s : S37} (h : okS s) : okS (cutEv s) := by
  unfold cutEv
  split
  · refine ⟨⟨h.ev.h0, h.ev.h1, h.ev.h2, h.ev.h3, h.ev.h4, h.ev.hp, h.ev.hn, ?_⟩, fun n hn => h.by_ n (List.mem_of_mem_take hn)⟩
    have := h.ev.hd
    show (bytesI (s.f7.take 300)).length ≤ _
    rw [bytesI_length, List.length_take]
    have e : (bytesI s.f7).length = s.f7.length := bytesI_length _
    have h2 : (bytesI s.f7).length ≤ 1048576 := this
    omega
  · exact h
def fewL (l : List S37) : List S37 := (l.take 60).map cutEv
theorem few_is (l : List S37) (hl : l.length ≤ 9223372036854775807) (d : Nat) : ∀ (i : Nat) (k : Nat), i ≤ 60 → i ≤ l.length → 60 - i = d → 2 * d + 2 ≤ k →
    cambiumlaw26_few.l0 k l (((l.take 60).take i).map cutEv) (i : Int) = some (fewL l) := by
  induction d with
  | zero =>
    intro i k h60 hil hd hk
    obtain rfl : i = 60 := by omega
    obtain ⟨k, rfl⟩ : ∃ m, k = m + 2 := ⟨k - 2, by omega⟩
    have e : ((l.take 60).take 60).map cutEv = fewL l := by rw [fewL, List.take_take]; simp
    rw [e]
    by_cases hlt : (60 : Int) < l.length
    · rw [cambiumlaw26_few.l0, if_pos (by simpa using hlt), cambiumlaw26_few.j1]
      simp
    · rw [cambiumlaw26_few.l0, if_neg (by simpa using hlt), cambiumlaw26_few.j1]
      simp
  | succ d ih =>
    intro i k h60 hil hd hk
    obtain ⟨k, rfl⟩ : ∃ m, k = m + 2 := ⟨k - 2, by omega⟩
    by_cases hlt : i < l.length
    · obtain ⟨s, hs⟩ : ∃ s, l[i]? = some s := ⟨_, List.getElem?_eq_getElem hlt⟩
      have es : rd_T37 l (i : Int) = s := by simp [rd_T37, List.getD, hs]
      have hw : wrap64 ((i : Int) + 1) = ((i + 1 : Nat) : Int) := by unfold wrap64; omega
      have hst : (((l.take 60).take (i + 1)).map cutEv) = (((l.take 60).take i).map cutEv) ++ [cutEv s] := by
        rw [List.take_add_one, List.getElem?_take, if_pos (by omega), hs]
        simp
      have hln : (((l.take 60).take i).map cutEv).length < 1466015503701 := by simp; omega
      have hi := ih (i + 1) k (by omega) (by omega) (by omega) (by omega)
      rw [hst] at hi
      rw [cambiumlaw26_few.l0, if_pos (by omega), cambiumlaw26_few.j1, if_pos (by simp; omega), if_pos (by omega), if_pos (by omega), es, hw]
      by_cases h3 : s.f7.length > 300
      · rw [if_pos (by omega), if_pos (by omega), if_pos hln]
        rw [show cutEv s = (⟨s.f0, s.f1, s.f2, s.f3, s.f4, s.f5, s.f6, s.f7.take 300⟩ : S37) by rw [cutEv, if_pos h3]] at hi
        exact hi
      · rw [if_neg (by omega), if_pos hln]
        rw [show cutEv s = (⟨s.f0, s.f1, s.f2, s.f3, s.f4, s.f5, s.f6, s.f7⟩ : S37) by rw [cutEv, if_neg h3]] at hi
        exact hi
    · obtain rfl : i = l.length := by omega
      rw [cambiumlaw26_few.l0, if_neg (by omega), cambiumlaw26_few.j1, if_neg (by simp), fewL]
      rw [List.take_take, List.take_of_length_le (by omega), List.take_of_length_le (by omega)]
theorem few_f (l : List S37) (hl : l.length ≤ 9223372036854775807) : cambiumlaw26_few.f 130 l = some (fewL l) := by
  have := few_is l hl 60 0 130 (by omega) (by omega) (by omega) (by omega)
  simpa [cambiumlaw26_few.f] using this
theorem fewL_ok {l : List S37} (h : ∀ s ∈ l, okS s) : ∀ s ∈ fewL l, okS s := by
  intro s hs
  obtain ⟨t, ht, rfl⟩ := List.mem_map.1 hs
  exact cutEv_ok (h t (List.mem_of_mem_take ht))
theorem fewL_len (l : List S37) : (fewL l).length ≤ 60 := by simp [fewL]; omega
end Go.Proofs.YtnkhakomjklfmaaDoor
