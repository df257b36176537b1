/- The reference's Print comes to the same lines. -/
import Derived.Test.YtnkhakomjklfmaaDoorRL
namespace Go.Proofs.YtnkhakomjklfmaaDoor
set_option linter.unusedVariables false
set_option linter.unusedSimpArgs false
open Go.RowKit Go.Sort PDeskPrints YtnkhakomjklfmaaDoorW.PrintWords

theorem refline_s (s : S37) (hs : okS s) (A : Option Addr) (cap : Nat) (w : World) (ht : Tab w) (hB : 8 ≤ w.heap.size) (hr : (Kd.int .u8).C w A s.f7.length s.f7) :
    Calls Tryd.prog 16 #[.agg #[.int .i64 s.f0, .int .i64 s.f1, .int .i64 s.f2, .int .i64 s.f3, .int .i64 s.f4, .string s.f5, .string s.f6, .slice A s.f7.length cap]] w fun e w' => e = .returned (.string (strA (evOf s).line)) ∧ Below w.heap.size w w' := by
  have h := refline_any (evOf s) hs.ev A cap w ht hB (rdB_of hr hs.by_)
  have e : (evOf s).cells A cap = #[.int .i64 s.f0, .int .i64 s.f1, .int .i64 s.f2, .int .i64 s.f3, .int .i64 s.f4, .string s.f5, .string s.f6, .slice A s.f7.length cap] := by
    unfold Ev.cells evOf
    rw [bytesI_length]
  rw [e] at h
  exact h

theorem lines_snoc (l : List S37) (k : Nat) (s : S37) (hk : l[k]? = some s) : linesL (l.take k) ++ (evOf s).line ++ [10] = linesL (l.take (k + 1)) := by
  unfold linesL
  rw [List.take_add_one, hk]
  simp [List.flatMap_append, Ev.lineN]

set_option maxHeartbeats 4000000 in
set_option maxRecDepth 100000 in
theorem refprint_any (A : Option Addr) (cap : Nat) (l : List S37) (w : World) (ht : Tab w) (hB : 8 ≤ w.heap.size) (hr : Kd.C k37 w A l.length l) (hok : ∀ s ∈ l, okS s) (hl : l.length ≤ 60) :
    Calls Tryd.prog 7 #[.slice A l.length cap] w fun e w' => e = .returned (.tuple #[.string (strA (linesL l)), .int .i64 0]) ∧ Below w.heap.size w w' := by
  have Hr := Lib.hid hr; clear hr
  have Hok := Lib.hid hok; clear hok
  have hgt : ¬ ((4096 : Int) < (l.length : Int)) := by omega
  go_enter Tryd.func7, Tryd.ntmps7
  go_wp2_with fail
  go_loopw [4, 5] (fun s i wr => ∃ k : Nat, k ≤ l.length ∧ i = .int .i64 k ∧ s = .string (strA (linesL (l.take k))) ∧ Below w.heap.size w wr) (fun _ i _ => l.length - (intOf i).toNat)
  case atStart => exact ⟨0, Nat.zero_le _, rfl, rfl, Below.refl _ _⟩
  case round =>
    obtain ⟨k, hk, rfl, rfl, HI⟩ := hrel
    have hcl := lines_take_le l k hl Hok.out
    have hsz := HI.size
    have HCH := Lib.hid HI
    by_cases hlt : k < l.length
    · obtain ⟨s, hs⟩ : ∃ s, l[k]? = some s := ⟨_, List.getElem?_eq_getElem hlt⟩
      have hsok := Hok.out s (List.mem_of_getElem? hs)
      obtain ⟨ad, A7, c7, had, d0, d1, d2, d3, d4, d5, d6, d7, l7, g7⟩ := at_T37 (Kd.C_below Hr.out HI) (k : Int) (by omega) (by omega)
      have es : rd_T37 l (k : Int) = s := by simp [rd_T37, List.getD, hs]
      rw [es] at d0 d1 d2 d3 d4 d5 d6 d7 l7 g7
      subst had
      simp only [Int.toNat_natCast] at d0 d1 d2 d3 d4 d5 d6 d7
      have G7 := Lib.hid g7
      have HE := Lib.hid (show strA (linesL (l.take k)) ++ strA (evOf s).line ++ (⟨#[10]⟩ : ByteArray) = strA (linesL (l.take (k + 1))) by
        rw [strA_app, show strA (linesL (l.take k) ++ (evOf s).line) ++ (⟨#[10]⟩ : ByteArray) = strA (linesL (l.take k) ++ (evOf s).line ++ [10]) from strA_app _ [10], lines_snoc l k s hs])
      have Hsok := Lib.hid hsok
      have hll := line_le hsok.ev
      have hs1 : (strA (linesL (l.take k))).size ≤ 1509950940 := by rw [strA_size]; exact hcl
      have hs2 : (strA (evOf s).line).size ≤ 25165848 := by rw [strA_size]; exact hll
      have hs3 : (strA (linesL (l.take k)) ++ strA (evOf s).line).size ≤ 1535116788 := by rw [strA_app, strA_size, List.length_append]; omega
      clear g7 hs hsok es l7 HI
      go_wp2_with fail
      refine (refline_s s Hsok.out A7 c7 _ (ht.below HCH.out hB) (Nat.le_trans hB HCH.out.size) G7.out).mono ?_
      rintro e w2 ⟨rfl, hb2⟩
      have HN := Lib.hid (HCH.out.trans (hb2.mono HCH.out.size))
      clear hb2 d0 d1 d2 d3 d4 d5 d6 d7
      go_wp2_with fail
      go_roundw
      case rel => exact ⟨k + 1, by omega, by go_num, by rw [HE.out], HN.out⟩
      case measure => simp [intOf]; omega
    · obtain rfl : k = l.length := by omega
      have HE := Lib.hid (show linesL (l.take l.length) = linesL l by rw [List.take_length])
      clear HI
      go_wp2
      go_ret2
      exact ⟨by rw [HE.out]; rfl, HCH.out⟩

end Go.Proofs.YtnkhakomjklfmaaDoor
