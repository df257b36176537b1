/- What Show comes to: the plain words. -/
import Derived.Test.YtnkhakomjklfmaaDoorBS
import Derived.Test.YtnkhakomjklfmaaDoorRL
namespace Go.Proofs.YtnkhakomjklfmaaDoor
set_option linter.unusedVariables false
set_option linter.unusedSimpArgs false
open Go.RowKit Go.Sort PDeskPrints YtnkhakomjklfmaaDoorW.PrintWords

def bitN (b : Bool) : Int := if b then 1 else 0
def nameSum (l : List ByteArray) : Nat := (l.map fun x => x.size + 1).sum
structure okA (s : S52) : Prop where
  i0 : inI64 s.f0
  i2 : inI64 s.f2
  i3 : inI64 s.f3
  by_ : ∀ n ∈ s.f4, isByte n
  ld : s.f4.length ≤ 1048576
  ln : nameSum s.f5 ≤ 1048576
  j0 : inI64 s.f6.f0
  j1 : inI64 s.f6.f1
  j2 : inI64 s.f6.f2
  j3 : inI64 s.f6.f3
def vals1 (s : S52) : List Int := [s.f0, bitN s.f1, s.f2, s.f3]
def vals2 (s : S52) : List Int := [s.f6.f0, s.f6.f1, s.f6.f2, s.f6.f3, (s.f5.length : Int)]
def p1 (s : S52) (j : Nat) : List UInt8 := ((vals1 s).take j).flatMap fun n => Lib.itoa n ++ [32]
def p2 (s : S52) (j : Nat) : List UInt8 := ((vals2 s).take j).flatMap fun n => [32] ++ Lib.itoa n
def p3 (s : S52) (j : Nat) : List UInt8 := (s.f5.take j).flatMap fun x => [32] ++ quoteL x.data.toList
def showA (s : S52) : List UInt8 := p1 s 4 ++ quoteL (bytesI s.f4) ++ p2 s 5 ++ p3 s s.f5.length ++ [10]
def showL (l : List S52) : List UInt8 := l.flatMap showA

theorem nameSum_len (l : List ByteArray) : l.length ≤ nameSum l := by
  induction l with
  | nil => simp
  | cons a r ih => simp only [nameSum, List.map_cons, List.sum_cons, List.length_cons] at *; omega
theorem nameSum_mem {l : List ByteArray} {x : ByteArray} (h : x ∈ l) : x.size + 1 ≤ nameSum l := by
  induction l with
  | nil => cases h
  | cons a r ih =>
    simp only [nameSum, List.map_cons, List.sum_cons] at *
    rcases List.mem_cons.1 h with rfl | h
    · omega
    · have := ih h; omega
theorem flatMap_le {α : Type} (l : List α) (f : α → List UInt8) (b : Nat) (h : ∀ x ∈ l, (f x).length ≤ b) : (l.flatMap f).length ≤ l.length * b := by
  induction l with
  | nil => simp
  | cons a r ih =>
    have h1 := h a (List.mem_cons_self ..)
    have h2 := ih (fun s hs => h s (List.mem_cons_of_mem _ hs))
    rw [List.flatMap_cons, List.length_append, List.length_cons, Nat.add_mul, Nat.one_mul]
    omega
theorem itoa_le {n : Int} (h : inI64 n) : (Lib.itoa n).length ≤ 21 := Lib.itoa_length_le n h.1 h.2
theorem bit_ok (b : Bool) : inI64 (bitN b) := by cases b <;> simp [bitN, inI64]
theorem vals1_ok {s : S52} (h : okA s) : ∀ n ∈ vals1 s, inI64 n := by
  intro n hn
  simp only [vals1, List.mem_cons, List.mem_nil_iff, or_false] at hn
  rcases hn with rfl | rfl | rfl | rfl
  · exact h.i0
  · exact bit_ok _
  · exact h.i2
  · exact h.i3
theorem len_ok {s : S52} (h : okA s) : inI64 (s.f5.length : Int) := by
  have := nameSum_len s.f5
  have := h.ln
  constructor <;> omega
theorem vals2_ok {s : S52} (h : okA s) : ∀ n ∈ vals2 s, inI64 n := by
  intro n hn
  simp only [vals2, List.mem_cons, List.mem_nil_iff, or_false] at hn
  rcases hn with rfl | rfl | rfl | rfl | rfl
  · exact h.j0
  · exact h.j1
  · exact h.j2
  · exact h.j3
  · exact len_ok h
theorem p1_le {s : S52} (h : okA s) (j : Nat) : (p1 s j).length ≤ 88 := by
  have h1 := flatMap_le ((vals1 s).take j) (fun n => Lib.itoa n ++ [32]) 22 (fun n hn => by
    have := itoa_le (vals1_ok h n (List.mem_of_mem_take hn)); simp; omega)
  have h2 : ((vals1 s).take j).length ≤ 4 := by rw [List.length_take]; simp [vals1]; omega
  unfold p1
  have := Nat.mul_le_mul_right 22 h2
  omega
theorem p2_le {s : S52} (h : okA s) (j : Nat) : (p2 s j).length ≤ 110 := by
  have h1 := flatMap_le ((vals2 s).take j) (fun n => [32] ++ Lib.itoa n) 22 (fun n hn => by
    have := itoa_le (vals2_ok h n (List.mem_of_mem_take hn)); simp; omega)
  have h2 : ((vals2 s).take j).length ≤ 5 := by rw [List.length_take]; simp [vals2]; omega
  unfold p2
  have := Nat.mul_le_mul_right 22 h2
  omega
theorem quote_len (l : List UInt8) : (quoteL l).length ≤ 3 * l.length + 2 := by
  have := flat_le l
  simp only [quoteL, List.length_append, List.length_cons, List.length_nil]; omega
theorem names_le (l : List ByteArray) : (l.flatMap fun x => [32] ++ quoteL x.data.toList).length ≤ 3 * nameSum l := by
  induction l with
  | nil => simp
  | cons a r ih =>
    have h1 := quote_len a.data.toList
    have h2 : a.data.toList.length = a.size := by simp
    rw [List.flatMap_cons, List.length_append]
    simp only [nameSum, List.map_cons, List.sum_cons, List.length_append, List.length_cons, List.length_nil] at *
    omega
theorem nameSum_take (l : List ByteArray) (j : Nat) : nameSum (l.take j) ≤ nameSum l := by
  induction l generalizing j with
  | nil => simp
  | cons a r ih =>
    cases j with
    | zero => simp [nameSum]
    | succ j =>
      have := ih j
      simp only [nameSum, List.take_succ_cons, List.map_cons, List.sum_cons] at *
      omega
theorem p3_le {s : S52} (h : okA s) (j : Nat) : (p3 s j).length ≤ 3145728 := by
  have h1 := names_le (s.f5.take j)
  have h2 := nameSum_take s.f5 j
  have h3 := h.ln
  unfold p3
  omega
theorem data_le {s : S52} (h : okA s) : (quoteL (bytesI s.f4)).length ≤ 3145730 := by
  have h1 := quote_len (bytesI s.f4)
  rw [bytesI_length] at h1
  have := h.ld
  omega
theorem showA_le {s : S52} (h : okA s) : (showA s).length ≤ 6300000 := by
  have a := p1_le h 4
  have b := data_le h
  have c := p2_le h 5
  have d := p3_le h s.f5.length
  simp only [showA, List.length_append, List.length_cons, List.length_nil]
  omega
theorem showL_le (l : List S52) (k : Nat) (hl : l.length ≤ 60) (h : ∀ s ∈ l, okA s) : (showL (l.take k)).length ≤ 378000000 := by
  have h1 := flatMap_le (l.take k) showA 6300000 (fun s hs => showA_le (h s (List.mem_of_mem_take hs)))
  have h2 : (l.take k).length ≤ 60 := by rw [List.length_take]; omega
  unfold showL
  have := Nat.mul_le_mul_right 6300000 h2
  omega
theorem take_snoc {α : Type} {l : List α} {j : Nat} {x : α} (h : l[j]? = some x) (f : α → List UInt8) : (l.take j).flatMap f ++ f x = (l.take (j + 1)).flatMap f := by
  rw [List.take_add_one, h]
  simp [List.flatMap_append]
theorem p1_snoc {s : S52} {j : Nat} {n : Int} (h : (vals1 s)[j]? = some n) : p1 s j ++ (Lib.itoa n ++ [32]) = p1 s (j + 1) := take_snoc h _
theorem p2_snoc {s : S52} {j : Nat} {n : Int} (h : (vals2 s)[j]? = some n) : p2 s j ++ (32 :: Lib.itoa n) = p2 s (j + 1) := take_snoc h _
theorem p3_snoc {s : S52} {j : Nat} {x : ByteArray} (h : s.f5[j]? = some x) : p3 s j ++ (32 :: quoteL x.data.toList) = p3 s (j + 1) := take_snoc h _
theorem showL_snoc {l : List S52} {k : Nat} {s : S52} (h : l[k]? = some s) : showL (l.take k) ++ showA s = showL (l.take (k + 1)) := take_snoc h _

theorem bit_any (b : Bool) (w : World) : Calls Tryd.prog 17 #[.bool b] w fun e w' => e = .returned (.int .i64 (bitN b)) ∧ w' = w := by
  cases b
  · go_enter Tryd.func17, Tryd.ntmps17
    go_wp2
    go_ret
    exact ⟨rfl, rfl⟩
  · go_enter Tryd.func17, Tryd.ntmps17
    go_wp2
    go_ret
    exact ⟨rfl, rfl⟩
theorem quote_s {s : S52} (h : okA s) (A : Option Addr) (cap : Nat) (w : World) (hr : RdB w A (bytesI s.f4)) :
    Calls Tryd.prog 12 #[.slice A s.f4.length cap] w fun e w' => e = .returned (.string (strA (quoteL (bytesI s.f4)))) ∧ Below w.heap.size w w' := by
  have := quote_any A cap (bytesI s.f4) w hr (by rw [bytesI_length]; exact h.ld)
  rwa [bytesI_length] at this
theorem rquote_s {s : S52} (h : okA s) (A : Option Addr) (cap : Nat) (w : World) (hr : RdB w A (bytesI s.f4)) :
    Calls Tryd.prog 19 #[.slice A s.f4.length cap] w fun e w' => e = .returned (.string (strA (quoteL (bytesI s.f4)))) ∧ Below w.heap.size w w' := by
  have := refquote_any A cap (bytesI s.f4) w hr (by rw [bytesI_length]; exact h.ld)
  rwa [bytesI_length] at this
theorem name_le {s : S52} (h : okA s) {x : ByteArray} (hx : x ∈ s.f5) : x.size ≤ 1048576 := by
  have := nameSum_mem hx
  have := h.ln
  omega
/-- A name of the list, in memory. -/
theorem name_at {w W : World} {A : Option Addr} {l : List ByteArray} (hr : Kd.string.C w A l.length l) (hb : Below w.heap.size w W) {j : Nat} {x : ByteArray} (hj : l[j]? = some x) :
    ∃ ad, A = some ad ∧ W.cell? (ad.add j) = some (.string x) := by
  have hjl := (List.getElem?_eq_some_iff.1 hj).1
  obtain ⟨ad, e, hc⟩ := Kd.at_string hr (j : Int) (by omega) (by omega)
  refine ⟨ad, e, ?_⟩
  rw [Int.toNat_natCast] at hc
  rw [hb.cell (World.block_lt_of_cell? w _ hc), hc]
  simp [rdOf, List.getD, hj]
end Go.Proofs.YtnkhakomjklfmaaDoor
