/- desk.line: an event's line. -/
import Derived.Test.YtnkhakomjklfmaaDoorWd
import Derived.Deep.QuietTactic
import Derived.BigQuiet
import Derived.Lib.ItoaLen
import Derived.Lib.Join
namespace Go.Proofs.YtnkhakomjklfmaaDoor
set_option linter.unusedVariables false
set_option linter.unusedSimpArgs false
open Go.RowKit Go.Sort

/-- An event's words, as bytes; those of the event that is none. -/
def Ev.wl (x : Ev) : List (List UInt8) := [Lib.itoa x.n0, Lib.itoa x.n1, Lib.itoa x.n2, Lib.itoa x.n3, Lib.itoa x.n4, quoteL x.path.data.toList, quoteL x.name.data.toList, quoteL x.data]
def Ev.none : Ev := ⟨0, 0, 0, 0, 0, ⟨#[]⟩, ⟨#[]⟩, []⟩
/-- How many words stand, when those at the end that are nothing are left out. -/
def trimW (a b : List (List UInt8)) : Nat → Nat
  | 0 => 0
  | n + 1 => if n ≥ 1 ∧ a.getD n [] = b.getD n [] then trimW a b n else n + 1
def Ev.line (x : Ev) : List UInt8 := Lib.join (x.wl.take (trimW x.wl Ev.none.wl 8)) [32]

/-- Both rows of words in memory. -/
structure LI (x : Ev) (w : World) (N : Nat) (wr : World) : Prop where
  b0 : wr.heap[N]? = some (.cells x.words 66 (0, 0))
  b1 : wr.heap[N + 1]? = some (.cells Ev.none.words 66 (0, 0))
  chg : Below w.heap.size w wr
theorem LI.start {x : Ev} {w w2 : World} (h : Below w.heap.size w w2) : LI x w w2.heap.size ((w2.alloc (.cells x.words 66)).alloc (.cells Ev.none.words 66)) := by
  refine ⟨?_, ?_, ?_⟩
  · exact at_old (at_new _ _ _ rfl)
  · exact at_new _ _ _ (by simp)
  · exact (h.alloc h.size _).alloc (by have := h.size; simp; omega) _
theorem LI.drewN {x : Ev} {w wr : World} {N : Nat} (h : LI x w N wr) (n : Nat) : LI x w N (wr.drewN n) := ⟨h.b0, h.b1, below_drewN h.chg n⟩
theorem words_at (x : Ev) (n : Nat) (h : n < 8) : x.words[n]? = some (.string (strA (x.wl.getD n []))) := by
  have : n = 0 ∨ n = 1 ∨ n = 2 ∨ n = 3 ∨ n = 4 ∨ n = 5 ∨ n = 6 ∨ n = 7 := by omega
  rcases this with rfl | rfl | rfl | rfl | rfl | rfl | rfl | rfl <;> rfl

theorem strA_toList (l : List UInt8) : (strA l).data.toList = l := by simp [strA]
theorem strA_inj {a b : List UInt8} (h : strA a = strA b) : a = b := by have := congrArg (fun s => s.data.toList) h; simpa [strA] using this
theorem quote_le (l : List UInt8) (h : l.length ≤ 1048576) : (quoteL l).length ≤ 3145730 := by
  have := flat_le l
  simp only [quoteL, List.length_append, List.length_cons, List.length_nil]; omega
theorem Ev.wl_le {x : Ev} (hx : x.ok) : ∀ s ∈ x.wl, s.length ≤ 3145730 := by
  obtain ⟨h0, h1, h2, h3, h4, hp, hn, hd⟩ := hx
  intro s hs
  have i (n : Int) (h : inI64 n) : (Lib.itoa n).length ≤ 3145730 := Nat.le_trans (Lib.itoa_length_le n h.1 h.2) (by decide)
  simp only [Ev.wl, List.mem_cons, List.mem_nil_iff, or_false] at hs
  rcases hs with rfl | rfl | rfl | rfl | rfl | rfl | rfl | rfl
  · exact i _ h0
  · exact i _ h1
  · exact i _ h2
  · exact i _ h3
  · exact i _ h4
  · exact quote_le _ (by simpa using hp)
  · exact quote_le _ (by simpa using hn)
  · exact quote_le _ hd
theorem lens_le (l : List (List UInt8)) (b : Nat) (h : ∀ s ∈ l, s.length ≤ b) : (Lib.join l [32]).length ≤ l.length * (b + 1) := by
  induction l with
  | nil => simp [Lib.join, List.intercalate]
  | cons a r ih =>
    have h1 := h a (List.mem_cons_self ..)
    have h2 := ih (fun s hs => h s (List.mem_cons_of_mem _ hs))
    cases r with
    | nil => rw [Lib.join_one]; simp; omega
    | cons c t =>
      have e : Lib.join (a :: c :: t) [32] = a ++ [32] ++ Lib.join (c :: t) [32] := by simp [Lib.join, List.intercalate]
      rw [e]
      simp only [List.length_append, List.length_cons, List.length_nil] at *
      have : (t.length + 1 + 1) * (b + 1) = (t.length + 1) * (b + 1) + (b + 1) := by rw [Nat.add_mul, Nat.one_mul]
      omega

/-- Joining words that lie in memory. -/
theorem join_any (N k : Nat) (l : List (List UInt8)) (w : World) (hk : l.length = k) (h8 : k ≤ 8) (hb : ∀ s ∈ l, s.length ≤ 3145730) (hN : N < w.heap.size)
    (hc : ∀ j s, l[j]? = some s → w.cell? ⟨N, j, none⟩ = some (.string (strA s))) :
    Calls Tryd.prog 29 #[.slice (some ⟨N, 0, none⟩) k k, .string ⟨#[32]⟩] w fun e w' => e = .returned (.string (strA (Lib.join l [32]))) ∧ Below w.heap.size w w' := by
  subst hk
  have e : (l.map strA).map (fun s => s.data.toList) = l := by
    rw [List.map_map]
    conv => rhs; rw [← List.map_id l]
    exact List.map_congr_left (fun a _ => strA_toList a)
  have hl := lens_le l 3145730 hb
  have hq := Tryd.strings_Join N 0 l.length (l.map strA) ⟨#[32]⟩ w (by
    intro j x hx
    rw [List.getElem?_map] at hx
    obtain ⟨s, hs, rfl⟩ := Option.map_eq_some_iff.1 hx
    rw [Nat.zero_add]
    exact hc j s hs) hN (by simp; omega) (by simp) (by
    rw [e]
    show (Lib.join l [32]).length ≤ _
    have : l.length * (3145730 + 1) ≤ 8 * 3145731 := Nat.mul_le_mul h8 (Nat.le_refl _)
    omega)
  rw [List.length_map, e] at hq
  exact hq

theorem slice_row (N k : Nat) (n : Int) (hn : n = k) (hk : k ≤ 8) (W : World) : (Instr.sliceAt 66 (.pointer (some ⟨N, 0, none⟩)) none (some (.int .i64 n)) (some (.int .i64 n))).run Tryd.prog W = .ok (.slice (some ⟨N, 0, none⟩) k k) W := by
  subst hn
  have hu : Tryd.prog.underlying 66 = some (.array (Tryd.prog.arrayLen 66) (Tryd.prog.elem 66)) := by kernel_rfl
  have hl : Tryd.prog.arrayLen 66 = 8 := by kernel_rfl
  have he : Tryd.prog.elem 66 = 9 := by kernel_rfl
  rw [run_sliceAt_array_hm (t := 66) (P := Tryd.prog) W ⟨N, 0, none⟩ hu .i64 .i64 k k (by omega) (by omega) (by rw [hl]; omega), he]
  simp [go_sem, slicedAt]
theorem take_at {l : List (List UInt8)} {k j : Nat} {s : List UInt8} (h : (l.take k)[j]? = some s) : l.getD j [] = s := by
  rw [List.getElem?_take] at h
  split at h
  · simp [List.getD, h]
  · cases h

theorem Ev.none_ok : Ev.none.ok := by
  refine ⟨?_, ?_, ?_, ?_, ?_, ?_, ?_, ?_⟩ <;> simp [Ev.none, inI64, ByteArray.size]

set_option maxHeartbeats 4000000 in
set_option maxRecDepth 100000 in
theorem line_any (x : Ev) (hx : x.ok) (A : Option Addr) (cap : Nat) (w : World) (ht : Tab w) (hB : 8 ≤ w.heap.size) (hr : RdB w A x.data) :
    Calls Tryd.prog 14 #[.agg (x.cells A cap)] w fun e w' => e = .returned (.string (strA x.line)) ∧ Below w.heap.size w w' := by
  have Hr := Lib.hid hr; clear hr
  unfold Ev.cells
  go_enter Tryd.func14, Tryd.ntmps14
  go_wp2_with fail
  have hb0 : Below w.heap.size w (w.alloc (.cells (x.cells A cap) 37)) := (Below.refl _ w).alloc (Nat.le_refl _) _
  refine (words_any x hx A cap _ (ht.below hb0 hB) (by simp; omega) (Hr.out.below hb0)).mono ?_
  rintro e w1 ⟨rfl, hb1⟩
  have HB1 := Lib.hid (hb0.trans (hb1.mono (Nat.le_of_lt (by simp))))
  clear hb0 hb1
  go_wp2_with fail
  refine (words_any Ev.none Ev.none_ok none 0 w1 (ht.below HB1.out hB) (Nat.le_trans hB HB1.out.size) (fun j c h => by cases h)).mono ?_
  rintro e w2 ⟨rfl, hb2⟩
  have HB2 := Lib.hid (HB1.out.trans (hb2.mono HB1.out.size))
  clear hb2 HB1
  have HL : LI x w w2.heap.size _ := LI.start HB2.out
  generalize hN : w2.heap.size = N at HL
  unfold Ev.words at HL ⊢
  go_wp2_with fail
  clear hN HB2
  go_loopw [5] (fun i wr => ∃ k : Nat, 1 ≤ k ∧ k ≤ 8 ∧ i = .int .i64 k ∧ trimW x.wl Ev.none.wl 8 = trimW x.wl Ev.none.wl k ∧ LI x w N wr) (fun i _ => (intOf i).toNat)
  case atStart => exact ⟨8, by omega, by omega, rfl, rfl, HL⟩
  case round =>
    clear HL
    obtain ⟨k, hk1, hk8, rfl, Htr, HI⟩ := hrel
    have HTR := Lib.hid Htr
    clear Htr
    by_cases h1 : k = 1
    · subst h1
      have hsl := fun W => slice_row N 1 1 (by omega) (by omega) W
      go_wp2_with fail
      go_quiet (fail)
      have HI2 := HI.drewN nq
      clear HI
      go_wp2_with fail
      refine (join_any N 1 (x.wl.take 1) _ (by simp [Ev.wl]) (by omega) (fun s hs => Ev.wl_le hx s (List.mem_of_mem_take hs)) (lt_of_heap HI2.b0) ?_).mono ?_
      · intro j s hs
        rw [Lib.cell_of_heap HI2.b0, words_at x j (by have := (List.getElem?_eq_some_iff.1 hs).1; simp [Ev.wl] at this; omega), take_at hs]
      rintro e w3 ⟨rfl, hb3⟩
      have HF := Lib.hid (HI2.chg.trans (hb3.mono HI2.chg.size))
      have HE : Lib.join (x.wl.take 1) [32] = x.line := by rw [Ev.line, HTR.out, trimW, if_neg (by omega)]
      rw [HE]
      clear hb3 HE HI2
      go_wp2
      go_ret
      exact ⟨rfl, HF.out⟩
    · obtain ⟨m, rfl⟩ : ∃ m, k = m + 1 := ⟨k - 1, by omega⟩
      have c0 := (Lib.cell_of_heap HI.b0 m).trans (words_at x m (by omega))
      have c1 := (Lib.cell_of_heap HI.b1 m).trans (words_at Ev.none m (by omega))
      have e1 : ((m + 1 : Nat) : Int) = (m : Int) + 1 := by omega
      rw [e1]
      have hd : decide ((1 : Int) < (m : Int) + 1) = true := by simp; omega
      have hm8 : (m : Int) < 8 := by omega
      have hsl := fun W => slice_row N (m + 1) ((m : Int) + 1) (by omega) (by omega) W
      obtain ⟨a, ha⟩ : ∃ a, x.wl.getD m [] = a := ⟨_, rfl⟩
      obtain ⟨b, hb⟩ : ∃ b, Ev.none.wl.getD m [] = b := ⟨_, rfl⟩
      rw [ha] at c0
      rw [hb] at c1
      by_cases hs : a = b
      · subst hs
        have hq : ((strA a).toList == (strA a).toList) = true := by simp
        have HTR2 := Lib.hid (show trimW x.wl Ev.none.wl 8 = trimW x.wl Ev.none.wl m by rw [HTR.out, trimW, if_pos ⟨by omega, ha.trans hb.symm⟩])
        clear ha hb
        go_wp2_with fail
        go_quiet (fail)
        have HI2 := HI.drewN nq
        clear HI c0 c1
        go_wp2_with fail
        go_roundw
        case rel => exact ⟨m, by omega, by omega, by go_num, HTR2.out, HI2⟩
        case measure => simp [intOf]
      · have hq : ((strA a).toList == (strA b).toList) = false := by
          rw [beq_eq_false_iff_ne, ByteArray.toList_eq, ByteArray.toList_eq, strA_toList, strA_toList]; exact hs
        have HTR2 := Lib.hid (show trimW x.wl Ev.none.wl 8 = m + 1 by rw [HTR.out, trimW, if_neg (fun h => hs (ha.symm.trans (h.2.trans hb)))])
        clear ha hb
        go_wp2_with fail
        go_quiet (fail)
        have HI2 := HI.drewN nq
        clear HI c0 c1
        go_wp2_with fail
        refine (join_any N (m + 1) (x.wl.take (m + 1)) _ (by simp [Ev.wl]; omega) (by omega) (fun s hs => Ev.wl_le hx s (List.mem_of_mem_take hs)) (lt_of_heap HI2.b0) ?_).mono ?_
        · intro j s hs
          rw [Lib.cell_of_heap HI2.b0, words_at x j (by have := (List.getElem?_eq_some_iff.1 hs).1; simp [Ev.wl] at this; omega), take_at hs]
        rintro e w3 ⟨rfl, hb3⟩
        have HF := Lib.hid (HI2.chg.trans (hb3.mono HI2.chg.size))
        have HE : Lib.join (x.wl.take (m + 1)) [32] = x.line := by rw [Ev.line, HTR2.out]
        rw [HE]
        clear hb3 HE HI2
        go_wp2
        go_ret
        exact ⟨rfl, HF.out⟩

end Go.Proofs.YtnkhakomjklfmaaDoor
