/- The law: the walk. -/
import Derived.Test.YtnkhakomjklfmaaDoorOP
import Derived.Test.YtnkhakomjklfmaaDoorFW
import Derived.Test.YtnkhakomjklfmaaDoorSN
import Derived.Test.YtnkhakomjklfmaaDoorRP
import Derived.Test.YtnkhakomjklfmaaDoorRSh
namespace Go.Proofs.YtnkhakomjklfmaaDoor
set_option linter.unusedVariables false
set_option linter.unusedSimpArgs false
open Go.RowKit Go.Sort PDeskPrints YtnkhakomjklfmaaDoorW.PrintWords

theorem heap37 : Kd.Heap k37 := Kd.heap_iso _ (Kd.heap_pair (Kd.heap_int _) (Kd.heap_pair (Kd.heap_int _) (Kd.heap_pair (Kd.heap_int _) (Kd.heap_pair (Kd.heap_int _) (Kd.heap_pair (Kd.heap_int _) (Kd.heap_pair Kd.heap_string (Kd.heap_pair Kd.heap_string (Kd.heap_slice _ (Kd.heap_int _)))))))))
theorem few_any (A : Option Addr) (c : Nat) (l : List S37) (w : World) (hl : l.length ≤ c) (hr : Kd.C k37 w A l.length l) :
    Calls Tryd.prog 5 #[.slice A l.length c] w fun e w' => (∃ A' c', e = .returned (.slice A' (fewL l).length c') ∧ Kd.C k37 w' A' (fewL l).length (fewL l)) ∧ Below w.heap.size w w' := by
  refine (cambiumlaw26_few.calls 130 (fun k => k < w.heap.size) A c l (fewL l) w (Kd.V_mk hl (Kd.C_F heap37 hr)) (few_f l hr.2.1)).mono ?_
  rintro e w' ⟨v, rfl, hN, hb⟩
  obtain ⟨A', c', rfl, _, hC⟩ := Kd.N_reads hN
  exact ⟨⟨A', c', rfl, hC⟩, hb⟩

set_option maxHeartbeats 4000000 in
set_option maxRecDepth 100000 in
theorem law_any (A1 : Option Addr) (c1 : Nat) (l1 : List S37) (A2 : Option Addr) (c2 : Nat) (l2 : List S52) (m : Int) (w : World) (ht : Tab w) (hB : 8 ≤ w.heap.size) (hm : w.cell? ⟨0, 0, none⟩ = some (.int .i64 m))
    (hl1 : l1.length ≤ c1) (hl2 : l2.length ≤ c2) (h1 : Kd.C k37 w A1 l1.length l1) (h2 : Kd.C k52 w A2 l2.length l2) (o1 : ∀ s ∈ l1, okS s) (o2 : ∀ s ∈ l2, okA s) :
    Calls Tryd.prog 3 #[.slice A1 l1.length c1, .slice A2 l2.length c2] w fun e w' => e = .returned (.bool true) ∧ Below w.heap.size w w' := by
  have H1 := Lib.hid h1
  have O1 := Lib.hid (fewL_ok o1)
  have hf := fewL_len l1
  clear h1 o1
  go_enter Tryd.func3, Tryd.ntmps3
  go_wp2_with fail
  refine (shown_any m w ht hB hm).mono ?_
  rintro e wa ⟨rfl, ha⟩
  go_wp2_with fail
  refine (few_any A1 c1 l1 wa hl1 (Kd.C_below H1.out ha)).mono ?_
  rintro e wb ⟨⟨A', c', rfl, hC⟩, hb⟩
  have HB := ha.trans (hb.mono ha.size)
  have HC := Lib.hid hC
  clear hb ha hC H1
  generalize fewL l1 = f at HC O1 hf
  obtain ⟨l, cc, hll, hll2, hlc, hC2, hO2⟩ : ∃ (l : List S52) (cc : Nat), l = (if l2.length > 60 then l2.take 60 else l2) ∧ l.length ≤ 60 ∧ l.length ≤ c2 ∧ Kd.C k52 w A2 l.length l ∧ ∀ s ∈ l, okA s := by
    by_cases h60 : l2.length > 60
    · exact ⟨_, 0, rfl, by rw [if_pos h60]; simp; omega, by rw [if_pos h60]; simp; omega, by rw [if_pos h60]; exact Kd.C_take h2 (by omega), by rw [if_pos h60]; exact fun s hs => o2 s (List.mem_of_mem_take hs)⟩
    · exact ⟨_, 0, rfl, by rw [if_neg h60]; omega, by rw [if_neg h60]; exact hl2, by rw [if_neg h60]; exact h2, by rw [if_neg h60]; exact o2⟩
  have C2 := Lib.hid hC2
  have O2 := Lib.hid hO2
  clear hC2 hO2 h2 o2
  by_cases h60 : l2.length > 60
  · rw [if_pos h60] at hll
    have hlen : l.length = 60 := by rw [hll]; simp; omega
    have hs8 : ∀ W, Tab W → 8 ≤ W.heap.size → Kd.C k52 W A2 l.length l → Calls Tryd.prog 8 #[.slice A2 60 c2] W fun e w' => e = .returned (.string (strA (showL l))) ∧ Below W.heap.size W w' := by
      intro W a b c
      have := show_any A2 c2 l W a b c O2.out hll2
      rwa [hlen] at this
    have hs9 : ∀ W, Tab W → 8 ≤ W.heap.size → Kd.C k52 W A2 l.length l → Calls Tryd.prog 9 #[.slice A2 60 c2] W fun e w' => e = .returned (.string (strA (showL l))) ∧ Below W.heap.size W w' := by
      intro W a b c
      have := refshow_any A2 c2 l W a b c O2.out hll2
      rwa [hlen] at this
    clear hll
    go_wp2_with fail
    refine (print_any A' c' f wb (ht.below HB hB) (Nat.le_trans hB HB.size) HC.out O1.out hf).mono ?_
    rintro e wc ⟨rfl, hc⟩
    have HBc := HB.trans (hc.mono HB.size)
    have HCc := Lib.hid (Kd.C_below HC.out hc)
    clear hc HC HB
    go_wp2_with fail
    refine (refprint_any A' c' f wc (ht.below HBc hB) (Nat.le_trans hB HBc.size) HCc.out O1.out hf).mono ?_
    rintro e wd ⟨rfl, hd⟩
    have HBd := HBc.trans (hd.mono HBc.size)
    clear hd HBc HCc
    have hq : ((strA (linesL f)).toList == (strA (linesL f)).toList) = true := by simp
    have hq2 : ((strA (showL l)).toList == (strA (showL l)).toList) = true := by simp
    go_wp2_with fail
    refine (hs8 wd (ht.below HBd hB) (Nat.le_trans hB HBd.size) (Kd.C_below C2.out HBd)).mono ?_
    rintro e we ⟨rfl, hd⟩
    have HBe := HBd.trans (hd.mono HBd.size)
    clear hd HBd
    go_wp2_with fail
    refine (hs9 we (ht.below HBe hB) (Nat.le_trans hB HBe.size) (Kd.C_below C2.out HBe)).mono ?_
    rintro e wf ⟨rfl, hd⟩
    have HBf := HBe.trans (hd.mono HBe.size)
    clear hd HBe
    go_wp2_with fail
    go_ret
    exact ⟨rfl, HBf⟩
  · rw [if_neg h60] at hll
    subst hll
    have hs8 := fun (W : World) a b c => show_any A2 c2 l W a b c O2.out hll2
    have hs9 := fun (W : World) a b c => refshow_any A2 c2 l W a b c O2.out hll2
    go_wp2_with fail
    refine (print_any A' c' f wb (ht.below HB hB) (Nat.le_trans hB HB.size) HC.out O1.out hf).mono ?_
    rintro e wc ⟨rfl, hc⟩
    have HBc := HB.trans (hc.mono HB.size)
    have HCc := Lib.hid (Kd.C_below HC.out hc)
    clear hc HC HB
    go_wp2_with fail
    refine (refprint_any A' c' f wc (ht.below HBc hB) (Nat.le_trans hB HBc.size) HCc.out O1.out hf).mono ?_
    rintro e wd ⟨rfl, hd⟩
    have HBd := HBc.trans (hd.mono HBc.size)
    clear hd HBc HCc
    have hq : ((strA (linesL f)).toList == (strA (linesL f)).toList) = true := by simp
    have hq2 : ((strA (showL l)).toList == (strA (showL l)).toList) = true := by simp
    go_wp2_with fail
    refine (hs8 wd (ht.below HBd hB) (Nat.le_trans hB HBd.size) (Kd.C_below C2.out HBd)).mono ?_
    rintro e we ⟨rfl, hd⟩
    have HBe := HBd.trans (hd.mono HBd.size)
    clear hd HBd
    go_wp2_with fail
    refine (hs9 we (ht.below HBe hB) (Nat.le_trans hB HBe.size) (Kd.C_below C2.out HBe)).mono ?_
    rintro e wf ⟨rfl, hd⟩
    have HBf := HBe.trans (hd.mono HBe.size)
    clear hd HBe
    go_wp2_with fail
    go_ret
    exact ⟨rfl, HBf⟩
end Go.Proofs.YtnkhakomjklfmaaDoor
