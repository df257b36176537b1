/- desk.words: the eight words of an event. -/
import Derived.Test.YtnkhakomjklfmaaDoorQ
import Derived.Deep.RegionHeld3
import Derived.Lib.ConvBytes
namespace Go.Proofs.YtnkhakomjklfmaaDoor
set_option linter.unusedVariables false
set_option linter.unusedSimpArgs false
open Go.RowKit Go.Sort

theorem grow_below (w : World) (k : Nat) (os : Array Obj) : Below w.heap.size w (grow (w.drewN k) os) := by
  refine ⟨rfl, rfl, rfl, ?_, ?_⟩
  · simp [grow]
  · intro i hi
    show (w.heap ++ os)[i]? = _
    rw [Array.getElem?_append_left hi]

/-- The library's table of powers, as the row lays it. -/
def Tab (w : World) : Prop := Lib.TabIs Tryd.prog w "internal/strconv.uint64pow10" .u64 Lib.pow10Tab
theorem Tab.below {B : Nat} {w w' : World} (h : Tab w) (hb : Below B w w') (hB : 8 ≤ B) : Tab w' := var?_below hb (g := 1) (by kernel_rfl) (by omega) h


theorem itoa_any (n : Int) (w : World) (ht : Tab w) (h0 : -9223372036854775808 ≤ n) (h1 : n ≤ 9223372036854775807) :
    Calls Tryd.prog 18 #[.int .i64 n] w fun e w' => e = .returned (.string (strA (Lib.itoa n))) ∧ Below w.heap.size w w' := by
  refine (Tryd.strconv_Itoa n h0 h1 w ht).mono ?_
  rintro e w' ⟨rfl, k, os, rfl⟩
  exact ⟨rfl, grow_below w k os⟩

structure Ev where
  n0 : Int
  n1 : Int
  n2 : Int
  n3 : Int
  n4 : Int
  path : ByteArray
  name : ByteArray
  data : List UInt8

def inI64 (n : Int) : Prop := -9223372036854775808 ≤ n ∧ n ≤ 9223372036854775807
structure Ev.ok (e : Ev) : Prop where
  h0 : inI64 e.n0
  h1 : inI64 e.n1
  h2 : inI64 e.n2
  h3 : inI64 e.n3
  h4 : inI64 e.n4
  hp : e.path.size ≤ 1048576
  hn : e.name.size ≤ 1048576
  hd : e.data.length ≤ 1048576

def Ev.cells (e : Ev) (A : Option Addr) (c : Nat) : Array Value := #[.int .i64 e.n0, .int .i64 e.n1, .int .i64 e.n2, .int .i64 e.n3, .int .i64 e.n4, .string e.path, .string e.name, .slice A e.data.length c]

def Ev.int (x : Ev) : Nat → Int
  | 0 => x.n0 | 1 => x.n1 | 2 => x.n2 | 3 => x.n3 | _ => x.n4
def Ev.at (x : Ev) (k j : Nat) : Value := .string (if j < k then strA (Lib.itoa (x.int j)) else ⟨#[]⟩)
def Ev.row (x : Ev) (k : Nat) : Array Value := #[x.at k 0, x.at k 1, x.at k 2, x.at k 3, x.at k 4, .string ⟨#[]⟩, .string ⟨#[]⟩, .string ⟨#[]⟩]
def zero8 : Array Value := #[.string ⟨#[]⟩, .string ⟨#[]⟩, .string ⟨#[]⟩, .string ⟨#[]⟩, .string ⟨#[]⟩, .string ⟨#[]⟩, .string ⟨#[]⟩, .string ⟨#[]⟩]

structure WI (x : Ev) (A : Option Addr) (cap : Nat) (w : World) (k : Nat) (wr : World) : Prop where
  b0 : wr.heap[w.heap.size]? = some (.cells (x.cells A cap) 37 (0, 0))
  b1 : wr.heap[w.heap.size + 1]? = some (.cells zero8 66 (0, 0))
  b2 : wr.heap[w.heap.size + 1 + 1]? = some (.cells (x.row k) 66 (0, 0))
  b3 : wr.heap[w.heap.size + 1 + 1 + 1]? = some (.cells #[.int .i64 x.n0, .int .i64 x.n1, .int .i64 x.n2, .int .i64 x.n3, .int .i64 x.n4] 3 (0, 0))
  chg : Below w.heap.size w wr

theorem at_new (w : World) (o : Obj) (k : Nat) (h : k = w.heap.size) : (w.alloc o).heap[k]? = some o := by subst h; exact heap_alloc_new w o
theorem at_old {w : World} {o x : Obj} {k : Nat} (h : w.heap[k]? = some x) : (w.alloc o).heap[k]? = some x := (Lib.alloc_old w o k (lt_of_heap h)).trans h

theorem WI.start (x : Ev) (A : Option Addr) (cap : Nat) (w : World) :
    WI x A cap w 0 ((((w.alloc (.cells (x.cells A cap) 37)).alloc (.cells zero8 66)).alloc (.cells zero8 66)).alloc (.cells #[.int .i64 x.n0, .int .i64 x.n1, .int .i64 x.n2, .int .i64 x.n3, .int .i64 x.n4] 3)) := by
  refine ⟨?_, ?_, ?_, ?_, ?_⟩
  · exact at_old (at_old (at_old (at_new _ _ _ rfl)))
  · exact at_old (at_old (at_new _ _ _ (by simp)))
  · exact at_old (at_new _ _ _ (by simp))
  · exact at_new _ _ _ (by simp)
  · exact ((((Below.refl _ w).alloc (Nat.le_refl _) _).alloc (by simp) _).alloc (by simp; omega) _).alloc (by simp; omega) _

theorem WI.below {x : Ev} {A : Option Addr} {cap : Nat} {w wr w2 : World} {k : Nat} (h : WI x A cap w k wr) (hb : Below wr.heap.size wr w2) : WI x A cap w k w2 :=
  ⟨Below.at hb h.b0 (lt_of_heap h.b0), Below.at hb h.b1 (lt_of_heap h.b1), Below.at hb h.b2 (lt_of_heap h.b2), Below.at hb h.b3 (lt_of_heap h.b3), h.chg.trans (hb.mono h.chg.size)⟩

theorem WI.store {x : Ev} {A : Option Addr} {cap : Nat} {w wr : World} {k : Nat} (h : WI x A cap w k wr) (hk : k < 5) :
    WI x A cap w (k + 1) (wr.setCell ⟨w.heap.size + 1 + 1, k, none⟩ (.string (strA (Lib.itoa (x.int k))))) := by
  refine ⟨?_, ?_, ?_, ?_, ?_⟩
  · rw [Below.heap_setCell _ _ _ _ (by simp; omega)]; exact h.b0
  · rw [Below.heap_setCell _ _ _ _ (by simp)]; exact h.b1
  · simp only [World.setCell, Array.getElem?_modify, h.b2, if_pos, Option.map_some, Option.isSome_none]
    congr 1
    have : k = 0 ∨ k = 1 ∨ k = 2 ∨ k = 3 ∨ k = 4 := by omega
    rcases this with rfl | rfl | rfl | rfl | rfl <;> simp [Ev.row, Ev.at, Ev.int]
  · rw [Below.heap_setCell _ _ _ _ (by simp)]; exact h.b3
  · exact h.chg.setCell (by simp; omega) _

theorem conv_below (w : World) (s : ByteArray) : Below w.heap.size w (Lib.bytesWorld w 5 s) := by
  refine ⟨?_, ?_, ?_, by rw [Lib.bytesWorld_size]; omega, fun k hk => Lib.bytesWorld_at_old w 5 s k hk⟩
  · simp [Lib.bytesWorld, World.freeze]; rfl
  · simp [Lib.bytesWorld, World.freeze]
  · simp [Lib.bytesWorld, World.freeze]; rfl
theorem WI.conv {x : Ev} {A : Option Addr} {cap : Nat} {w wr : World} {k : Nat} (h : WI x A cap w k wr) (s : ByteArray) : WI x A cap w k (Lib.bytesWorld wr 5 s) := h.below (conv_below wr s)
theorem WI.drew {x : Ev} {A : Option Addr} {cap : Nat} {w wr : World} {k : Nat} (h : WI x A cap w k wr) : WI x A cap w k wr.drew := ⟨h.b0, h.b1, h.b2, h.b3, h.chg.drew⟩
def WS (x : Ev) (A : Option Addr) (cap : Nat) (w wr : World) : Prop := wr.cell? ⟨w.heap.size, 5, none⟩ = some (.string x.path) ∧ wr.cell? ⟨w.heap.size, 6, none⟩ = some (.string x.name) ∧ wr.cell? ⟨w.heap.size, 7, none⟩ = some (.slice A x.data.length cap)
theorem WI.S {x : Ev} {A : Option Addr} {cap : Nat} {w wr : World} (h : WI x A cap w 5 wr) : WS x A cap w wr := by
  refine ⟨?_, ?_, ?_⟩ <;> (rw [Lib.cell_of_heap h.b0]; rfl)
theorem frz_set (w : World) (p a : Addr) (v : Value) : (w.setCell p v).frozen? a = w.frozen? a := by
  simp only [World.frozen?, World.setCell, Array.getElem?_modify]
  by_cases h : p.block = a.block
  · rw [if_pos h]
    cases hh : w.heap[a.block]? with
    | none => simp
    | some o => cases o <;> simp
  · rw [if_neg h]
theorem WS.store {x : Ev} {A : Option Addr} {cap : Nat} {w wr : World} (h : WS x A cap w wr) (j : Nat) (v : Value) : WS x A cap w (wr.setCell ⟨w.heap.size + 1 + 1, j, none⟩ v) := by
  obtain ⟨h5, h6, h7⟩ := h
  refine ⟨?_, ?_, ?_⟩ <;> (rw [World.cell?_setCell_far _ _ _ _ (by simp; omega)]; assumption)
/-- The words' row when all is done. -/
def Ev.words (x : Ev) : Array Value := #[.string (strA (Lib.itoa x.n0)), .string (strA (Lib.itoa x.n1)), .string (strA (Lib.itoa x.n2)), .string (strA (Lib.itoa x.n3)), .string (strA (Lib.itoa x.n4)),
  .string (strA (quoteL x.path.data.toList)), .string (strA (quoteL x.name.data.toList)), .string (strA (quoteL x.data))]
structure WF (x : Ev) (w wr : World) : Prop where
  b1 : wr.heap[w.heap.size + 1]? = some (.cells zero8 66 (0, 0))
  b2 : wr.heap[w.heap.size + 1 + 1]? = some (.cells x.words 66 (0, 0))
  chg : Below w.heap.size w wr
theorem WI.final {x : Ev} {A : Option Addr} {cap : Nat} {w wr : World} (h : WI x A cap w 5 wr) :
    WF x w (((wr.setCell ⟨w.heap.size + 1 + 1, 5, none⟩ (.string (strA (quoteL x.path.data.toList)))).setCell ⟨w.heap.size + 1 + 1, 6, none⟩ (.string (strA (quoteL x.name.data.toList)))).setCell ⟨w.heap.size + 1 + 1, 7, none⟩ (.string (strA (quoteL x.data)))) := by
  refine ⟨?_, ?_, ?_⟩
  · rw [Below.heap_setCell _ _ _ _ (by simp), Below.heap_setCell _ _ _ _ (by simp), Below.heap_setCell _ _ _ _ (by simp)]; exact h.b1
  · simp [World.setCell, Array.getElem?_modify, h.b2, Ev.row, Ev.words, Ev.at, Ev.int]
  · exact ((h.chg.setCell (by simp; omega) _).setCell (by simp; omega) _).setCell (by simp; omega) _
theorem quote_str (ad : Addr) (cap : Nat) (s : ByteArray) (w : World) (hr : RdB w (some ad) s.data.toList) (hl : s.size ≤ 1048576) :
    Calls Tryd.prog 12 #[.slice (some ad) s.size cap] w fun e w' => e = .returned (.string (strA (quoteL s.data.toList))) ∧ Below w.heap.size w w' := by
  have e : s.size = s.data.toList.length := by simp
  rw [e]
  exact quote_any (some ad) cap s.data.toList w hr (by rw [← e]; exact hl)
theorem conv_rd (w : World) (s : ByteArray) : RdB (Lib.bytesWorld w 5 s) (some ⟨w.heap.size, 0, none⟩) s.data.toList := by
  intro j c hj
  refine ⟨_, rfl, ?_⟩
  have hlt : j < s.size := by
    rcases Nat.lt_or_ge j s.size with h | h
    · exact h
    · rw [List.getElem?_eq_none (by simpa using h)] at hj; cases hj
  have e : ((⟨w.heap.size, 0, none⟩ : Addr).add j) = ⟨w.heap.size, j, none⟩ := by unfold Addr.add; split <;> simp_all
  rw [e, Lib.bytesWorld_cell w 5 s j hlt, List.getD, hj]
  rfl

def setW (N : Nat) (x : Ev) (w6 : World) : World := ((((((((w6.setCell ⟨N, 0, none⟩ (.string (strA (Lib.itoa x.n0)))).setCell ⟨N, 1, none⟩ (.string (strA (Lib.itoa x.n1)))).setCell ⟨N, 2, none⟩ (.string (strA (Lib.itoa x.n2)))).setCell ⟨N, 3, none⟩ (.string (strA (Lib.itoa x.n3)))).setCell ⟨N, 4, none⟩ (.string (strA (Lib.itoa x.n4)))).setCell ⟨N, 5, none⟩ (.string (strA (quoteL x.path.data.toList)))).setCell ⟨N, 6, none⟩ (.string (strA (quoteL x.name.data.toList)))).setCell ⟨N, 7, none⟩ (.string (strA (quoteL x.data))))
theorem setW_block {N : Nat} {x : Ev} {w6 : World} (h : w6.heap[N]? = some (.cells zero8 66 (0, 0))) : (setW N x w6).heap[N]? = some (.cells x.words 66 (0, 0)) := by
  simp [setW, World.setCell, Array.getElem?_modify, h, zero8, Ev.words]
theorem setW_below {B N : Nat} {x : Ev} {w w6 : World} (h : Below B w w6) (hN : B ≤ N) : Below B w (setW N x w6) :=
  ((((((((h.setCell (p := ⟨N, 0, none⟩) hN _).setCell (p := ⟨N, 1, none⟩) hN _).setCell (p := ⟨N, 2, none⟩) hN _).setCell (p := ⟨N, 3, none⟩) hN _).setCell (p := ⟨N, 4, none⟩) hN _).setCell (p := ⟨N, 5, none⟩) hN _).setCell (p := ⟨N, 6, none⟩) hN _).setCell (p := ⟨N, 7, none⟩) hN _)
set_option maxRecDepth 100000 in
theorem words_ret {x : Ev} {W : World} {N : Nat} (t : Array Value) (ht : t[2]? = some (.pointer (some ⟨N, 0, none⟩))) (h : W.heap[N]? = some (.cells x.words 66 (0, 0))) :
    (results Tryd.f28 t).run Tryd.prog W = .ok (.agg x.words) W := by
  have d0 := (Lib.cell_of_heap h 0).trans (show x.words[0]? = some (.string (strA (Lib.itoa x.n0))) from rfl)
  have d1 := (Lib.cell_of_heap h 1).trans (show x.words[1]? = some (.string (strA (Lib.itoa x.n1))) from rfl)
  have d2 := (Lib.cell_of_heap h 2).trans (show x.words[2]? = some (.string (strA (Lib.itoa x.n2))) from rfl)
  have d3 := (Lib.cell_of_heap h 3).trans (show x.words[3]? = some (.string (strA (Lib.itoa x.n3))) from rfl)
  have d4 := (Lib.cell_of_heap h 4).trans (show x.words[4]? = some (.string (strA (Lib.itoa x.n4))) from rfl)
  have d5 := (Lib.cell_of_heap h 5).trans (show x.words[5]? = some (.string (strA (quoteL x.path.data.toList))) from rfl)
  have d6 := (Lib.cell_of_heap h 6).trans (show x.words[6]? = some (.string (strA (quoteL x.name.data.toList))) from rfl)
  have d7 := (Lib.cell_of_heap h 7).trans (show x.words[7]? = some (.string (strA (quoteL x.data))) from rfl)
  unfold Ev.words
  simp [results, Tryd.results28, go_sem, ht, d0, d1, d2, d3, d4, d5, d6, d7]

theorem Ev.int_ok {x : Ev} (hx : x.ok) (k : Nat) : inI64 (x.int k) := by
  obtain ⟨h0, h1, h2, h3, h4, _⟩ := hx
  unfold Ev.int; split <;> assumption

set_option maxHeartbeats 4000000 in
set_option maxRecDepth 100000 in
theorem words_any (x : Ev) (hx : x.ok) (A : Option Addr) (cap : Nat) (w : World) (ht : Tab w) (hB : 8 ≤ w.heap.size) (hr : RdB w A x.data) :
    Calls Tryd.prog 28 #[.agg (x.cells A cap)] w fun e w' => e = .returned (.agg x.words) ∧ Below w.heap.size w w' := by
  have Hr := Lib.hid hr; clear hr
  have HS := WI.start x A cap w
  unfold Ev.cells zero8 at HS
  unfold Ev.cells
  go_enter Tryd.func28, Tryd.ntmps28
  go_wp2_with fail
  go_loopw [18] (fun i wr => ∃ k : Nat, k ≤ 5 ∧ i = .int .i64 k ∧ WI x A cap w k wr) (fun i _ => 5 - (intOf i).toNat)
  case atStart => exact ⟨0, by omega, rfl, HS⟩
  case round =>
    clear HS
    obtain ⟨k, hk, rfl, HI⟩ := hrel
    by_cases hlt : k < 5
    · have hkk : (k : Int) < 5 := by omega
      have hc : wr.cell? ⟨w.heap.size + 1 + 1 + 1, k, none⟩ = some (.int .i64 (x.int k)) := by
        rw [Lib.cell_of_heap HI.b3]
        have : k = 0 ∨ k = 1 ∨ k = 2 ∨ k = 3 ∨ k = 4 := by omega
        rcases this with rfl | rfl | rfl | rfl | rfl <;> rfl
      obtain ⟨hi0, hi1⟩ := Ev.int_ok hx k
      go_wp2_with fail
      refine (itoa_any _ wr (ht.below HI.chg hB) hi0 hi1).mono ?_
      rintro e w2 ⟨rfl, hb2⟩
      have HI2 := HI.below hb2
      have hf : w2.frozen? ⟨w.heap.size + 1 + 1, k, none⟩ = false := Lib.frozen_of_heap HI2.b2 _
      have hc2 : w2.cell? ⟨w.heap.size + 1 + 1, k, none⟩ = some (x.at k k) := by
        rw [Lib.cell_of_heap HI2.b2]
        have : k = 0 ∨ k = 1 ∨ k = 2 ∨ k = 3 ∨ k = 4 := by omega
        rcases this with rfl | rfl | rfl | rfl | rfl <;> rfl
      have HI3 := HI2.store hlt
      have hk8 : (k : Int) < 8 := by omega
      clear HI HI2 hb2
      unfold Ev.at at hc2
      go_wp2_with fail
      go_roundw
      case rel => exact ⟨k + 1, by omega, by go_num, HI3⟩
      case measure => simp [intOf]; omega
    · obtain rfl : k = 5 := by omega
      have hcv := fun (W : World) (t : ByteArray) => Lib.run_convert_string_bytes (P := Tryd.prog) W 9 33 5 t Tryd.underlying9 Tryd.underlying33 Tryd.underlying5
      go_wp2_with fail
      refine wp_region_held_drew (S := fun w' => w'.cell? ⟨w.heap.size, 5, none⟩ = some (.string x.path) ∧ w'.cell? ⟨w.heap.size, 6, none⟩ = some (.string x.name) ∧ w'.cell? ⟨w.heap.size, 7, none⟩ = some (.slice A x.data.length cap)) (by kernel_rfl) HI.drew.S (fun hHeld => ?_)
      refine wpAnyH_take (i := 0) (v := ?_) rfl (by kernel_rfl) (by kernel_rfl) (by kernel_rfl) (fun _ _ _ h => h) (Or.inl ⟨by rfl, ?_⟩) (by assumption) ?_
      rotate_left
      · intro w hSw; (try dsimp only at hSw); go_simp; try with_reducible rfl
      try simp only [List.getElem_toArray, List.getElem_cons_zero, List.getElem_cons_succ, Act.put, List.setIfInBounds_toArray, List.set_cons_zero, List.set_cons_succ]
      refine wpAnyH_take (i := 1) (v := ?_) rfl (by kernel_rfl) (by kernel_rfl) (by kernel_rfl) (fun _ _ _ h => h) (Or.inl ⟨by rfl, ?_⟩) (by assumption) ?_
      rotate_left
      · intro w hSw; (try dsimp only at hSw); go_simp; try with_reducible rfl
      try simp only [List.getElem_toArray, List.getElem_cons_zero, List.getElem_cons_succ, Act.put, List.setIfInBounds_toArray, List.set_cons_zero, List.set_cons_succ]
      refine wpAnyH_take (i := 4) (v := ?_) rfl (by kernel_rfl) (by kernel_rfl) (by kernel_rfl) (fun _ _ _ h => h) (Or.inl ⟨by rfl, ?_⟩) (by assumption) ?_
      rotate_left
      · intro w hSw; (try dsimp only at hSw); go_simp; try with_reducible rfl
      try simp only [List.getElem_toArray, List.getElem_cons_zero, List.getElem_cons_succ, Act.put, List.setIfInBounds_toArray, List.set_cons_zero, List.set_cons_succ]
      refine wpAnyH_take (i := 5) (v := ?_) rfl (by kernel_rfl) (by kernel_rfl) (by kernel_rfl) (fun _ _ _ h => h) (Or.inl ⟨by rfl, ?_⟩) (by assumption) ?_
      rotate_left
      · intro w hSw; (try dsimp only at hSw); go_simp; try with_reducible rfl
      try simp only [List.getElem_toArray, List.getElem_cons_zero, List.getElem_cons_succ, Act.put, List.setIfInBounds_toArray, List.set_cons_zero, List.set_cons_succ]
      refine wpAnyH_take (i := 8) (v := ?_) rfl (by kernel_rfl) (by kernel_rfl) (by kernel_rfl) (fun _ _ _ h => h) (Or.inl ⟨by rfl, ?_⟩) (by assumption) ?_
      rotate_left
      · intro w hSw; (try dsimp only at hSw); go_simp; try with_reducible rfl
      try simp only [List.getElem_toArray, List.getElem_cons_zero, List.getElem_cons_succ, Act.put, List.setIfInBounds_toArray, List.set_cons_zero, List.set_cons_succ]
      refine wpAnyH_take (i := 9) (v := ?_) rfl (by kernel_rfl) (by kernel_rfl) (by kernel_rfl) (fun _ _ _ h => h) (Or.inl ⟨by rfl, ?_⟩) (by assumption) ?_
      rotate_left
      · intro w hSw; (try dsimp only at hSw); go_simp; try with_reducible rfl
      try simp only [List.getElem_toArray, List.getElem_cons_zero, List.getElem_cons_succ, Act.put, List.setIfInBounds_toArray, List.set_cons_zero, List.set_cons_succ]
      have HI0 := HI.drew
      refine wpAnyH_ready (rs := [2, 6]) (by kernel_rfl) (by simp) ?_
      refine AllReadyH.cons (i := 2) rfl (fun K hK => ?_) ?_
      · go_simp
        have HI1 := HI0.conv x.path
        have hb1 := conv_below (wr.drew) x.path
        have rc0 := Lib.hid (conv_rd wr.drew x.path)
        have sc0 : wr.drew.heap.size < (Lib.bytesWorld wr.drew 5 x.path).heap.size := by have := Lib.bytesWorld_size wr.drew 5 x.path; omega
        try clear hHeld
        refine hK.out _ _ HI1.S (fun hHeld => ?_)
        clear hK K
        try simp only [List.getElem_toArray, List.getElem_cons_zero, List.getElem_cons_succ, Act.put, List.setIfInBounds_toArray, List.set_cons_zero, List.set_cons_succ]
        refine wpAnyH_ready (rs := [3, 6]) (by kernel_rfl) (by simp) ?_
        refine AllReadyH.cons (i := 3) rfl (fun K hK => ?_) ?_
        · go_simp
          refine (quote_str _ _ x.path _ rc0.out hx.hp).mono ?_
          rintro e w2 ⟨rfl, hb2⟩
          have HI2 := HI1.below hb2
          try go_simp
          try clear hHeld
          refine hK.out _ _ HI2.S (fun hHeld => ?_)
          clear hK K
          try simp only [List.getElem_toArray, List.getElem_cons_zero, List.getElem_cons_succ, Act.put, List.setIfInBounds_toArray, List.set_cons_zero, List.set_cons_succ]
          refine wpAnyH_take (i := 11) (v := ?_) rfl (by kernel_rfl) (by kernel_rfl) (by kernel_rfl) (fun _ _ _ h => h) (Or.inl ⟨by rfl, ?_⟩) (by assumption) ?_
          rotate_left
          · intro w hSw; (try dsimp only at hSw); go_simp; try with_reducible rfl
          try simp only [List.getElem_toArray, List.getElem_cons_zero, List.getElem_cons_succ, Act.put, List.setIfInBounds_toArray, List.set_cons_zero, List.set_cons_succ]
          refine wpAnyH_ready (rs := [6]) (by kernel_rfl) (by simp) ?_
          refine AllReadyH.cons (i := 6) rfl (fun K hK => ?_) ?_
          · go_simp
            have HI3 := HI2.conv x.name
            have hb3 := conv_below (w2) x.name
            have rc1 := Lib.hid (conv_rd w2 x.name)
            have sc1 : w2.heap.size < (Lib.bytesWorld w2 5 x.name).heap.size := by have := Lib.bytesWorld_size w2 5 x.name; omega
            try clear hHeld
            refine hK.out _ _ HI3.S (fun hHeld => ?_)
            clear hK K
            try simp only [List.getElem_toArray, List.getElem_cons_zero, List.getElem_cons_succ, Act.put, List.setIfInBounds_toArray, List.set_cons_zero, List.set_cons_succ]
            refine wpAnyH_ready (rs := [7]) (by kernel_rfl) (by simp) ?_
            refine AllReadyH.cons (i := 7) rfl (fun K hK => ?_) ?_
            · go_simp
              refine (quote_str _ _ x.name _ rc1.out hx.hn).mono ?_
              rintro e w4 ⟨rfl, hb4⟩
              have HI4 := HI3.below hb4
              try go_simp
              try clear hHeld
              refine hK.out _ _ HI4.S (fun hHeld => ?_)
              clear hK K
              try simp only [List.getElem_toArray, List.getElem_cons_zero, List.getElem_cons_succ, Act.put, List.setIfInBounds_toArray, List.set_cons_zero, List.set_cons_succ]
              refine wpAnyH_ready (rs := [10]) (by kernel_rfl) (by simp) ?_
              refine AllReadyH.cons (i := 10) rfl (fun K hK => ?_) ?_
              · go_simp
                have Hr2 : RdB w4 A x.data := Hr.out.below HI4.chg
                refine (quote_any A cap x.data _ Hr2 hx.hd).mono ?_
                rintro e w5 ⟨rfl, hb5⟩
                have HI5 := HI4.below hb5
                try go_simp
                try clear hHeld
                refine hK.out _ _ HI5.S (fun hHeld => ?_)
                clear hK K
                try simp only [List.getElem_toArray, List.getElem_cons_zero, List.getElem_cons_succ, Act.put, List.setIfInBounds_toArray, List.set_cons_zero, List.set_cons_succ]
                have f5 : w5.frozen? ⟨w.heap.size + 1 + 1, 5, none⟩ = false := Lib.frozen_of_heap HI5.b2 _
                have c5 : (w5).cell? ⟨w.heap.size + 1 + 1, 5, none⟩ = some (.string ⟨#[]⟩) := by rw [Lib.cell_of_heap HI5.b2]; rfl
                refine wpAnyH_ready (rs := [12]) (by kernel_rfl) (by simp) ?_
                refine AllReadyH.cons (i := 12) rfl (fun K hK => ?_) ?_
                · go_simp
                  try clear hHeld
                  refine hK.out _ _ (HI5.S.store 5 _) (fun hHeld => ?_)
                  clear hK K
                  try simp only [List.getElem_toArray, List.getElem_cons_zero, List.getElem_cons_succ, Act.put, List.setIfInBounds_toArray, List.set_cons_zero, List.set_cons_succ]
                  have HS1 := HI5.S.store 5 (.string (strA (quoteL x.path.data.toList)))
                  refine wpAnyH_take (i := 13) (v := ?_) rfl (by kernel_rfl) (by kernel_rfl) (by kernel_rfl) (fun _ _ _ h => h) (Or.inl ⟨by rfl, ?_⟩) (by assumption) ?_
                  rotate_left
                  · intro w hSw; (try dsimp only at hSw); go_simp; try with_reducible rfl
                  try simp only [List.getElem_toArray, List.getElem_cons_zero, List.getElem_cons_succ, Act.put, List.setIfInBounds_toArray, List.set_cons_zero, List.set_cons_succ]
                  have f6 : ((w5.setCell ⟨w.heap.size + 1 + 1, 5, none⟩ (.string (strA (quoteL x.path.data.toList))))).frozen? ⟨w.heap.size + 1 + 1, 6, none⟩ = false := by rw [frz_set]; exact Lib.frozen_of_heap HI5.b2 _
                  have c6 : ((w5.setCell ⟨w.heap.size + 1 + 1, 5, none⟩ (.string (strA (quoteL x.path.data.toList))))).cell? ⟨w.heap.size + 1 + 1, 6, none⟩ = some (.string ⟨#[]⟩) := by rw [World.cell?_setCell_other _ _ _ _ (by simp)]; rw [Lib.cell_of_heap HI5.b2]; rfl
                  refine wpAnyH_ready (rs := [14]) (by kernel_rfl) (by simp) ?_
                  refine AllReadyH.cons (i := 14) rfl (fun K hK => ?_) ?_
                  · go_simp
                    try clear hHeld
                    refine hK.out _ _ (HS1.store 6 _) (fun hHeld => ?_)
                    clear hK K
                    try simp only [List.getElem_toArray, List.getElem_cons_zero, List.getElem_cons_succ, Act.put, List.setIfInBounds_toArray, List.set_cons_zero, List.set_cons_succ]
                    have HS2 := HS1.store 6 (.string (strA (quoteL x.name.data.toList)))
                    refine wpAnyH_take (i := 15) (v := ?_) rfl (by kernel_rfl) (by kernel_rfl) (by kernel_rfl) (fun _ _ _ h => h) (Or.inl ⟨by rfl, ?_⟩) (by assumption) ?_
                    rotate_left
                    · intro w hSw; (try dsimp only at hSw); go_simp; try with_reducible rfl
                    try simp only [List.getElem_toArray, List.getElem_cons_zero, List.getElem_cons_succ, Act.put, List.setIfInBounds_toArray, List.set_cons_zero, List.set_cons_succ]
                    have f7 : (((w5.setCell ⟨w.heap.size + 1 + 1, 5, none⟩ (.string (strA (quoteL x.path.data.toList)))).setCell ⟨w.heap.size + 1 + 1, 6, none⟩ (.string (strA (quoteL x.name.data.toList))))).frozen? ⟨w.heap.size + 1 + 1, 7, none⟩ = false := by rw [frz_set, frz_set]; exact Lib.frozen_of_heap HI5.b2 _
                    have c7 : (((w5.setCell ⟨w.heap.size + 1 + 1, 5, none⟩ (.string (strA (quoteL x.path.data.toList)))).setCell ⟨w.heap.size + 1 + 1, 6, none⟩ (.string (strA (quoteL x.name.data.toList))))).cell? ⟨w.heap.size + 1 + 1, 7, none⟩ = some (.string ⟨#[]⟩) := by rw [World.cell?_setCell_other _ _ _ _ (by simp), World.cell?_setCell_other _ _ _ _ (by simp)]; rw [Lib.cell_of_heap HI5.b2]; rfl
                    refine wpAnyH_ready (rs := [16]) (by kernel_rfl) (by simp) ?_
                    refine AllReadyH.cons (i := 16) rfl (fun K hK => ?_) ?_
                    · go_simp
                      try clear hHeld
                      refine hK.out _ _ (HS2.store 7 _) (fun hHeld => ?_)
                      clear hK K
                      try simp only [List.getElem_toArray, List.getElem_cons_zero, List.getElem_cons_succ, Act.put, List.setIfInBounds_toArray, List.set_cons_zero, List.set_cons_succ]
                      have HS3 := HS2.store 7 (.string (strA (quoteL x.data)))
                      refine wpAnyH_done (by kernel_rfl) ?_ _
                      have HF := HI5.final
                      generalize (((w5.setCell ⟨w.heap.size + 1 + 1, 5, none⟩ (.string (strA (quoteL x.path.data.toList)))).setCell ⟨w.heap.size + 1 + 1, 6, none⟩ (.string (strA (quoteL x.name.data.toList)))).setCell ⟨w.heap.size + 1 + 1, 7, none⟩ (.string (strA (quoteL x.data)))) = w6 at HF ⊢
                      obtain ⟨HF1, HF2, HF3⟩ := HF
                      have HF3 := Lib.hid HF3
                      clear HS1 HS2 HS3 HI0 f5 f6 f7 c5 c6 c7
                      have d0 := (Lib.cell_of_heap HF2 0).trans (show x.words[0]? = some (.string (strA (Lib.itoa x.n0))) from rfl)
                      have d1 := (Lib.cell_of_heap HF2 1).trans (show x.words[1]? = some (.string (strA (Lib.itoa x.n1))) from rfl)
                      have d2 := (Lib.cell_of_heap HF2 2).trans (show x.words[2]? = some (.string (strA (Lib.itoa x.n2))) from rfl)
                      have d3 := (Lib.cell_of_heap HF2 3).trans (show x.words[3]? = some (.string (strA (Lib.itoa x.n3))) from rfl)
                      have d4 := (Lib.cell_of_heap HF2 4).trans (show x.words[4]? = some (.string (strA (Lib.itoa x.n4))) from rfl)
                      have d5 := (Lib.cell_of_heap HF2 5).trans (show x.words[5]? = some (.string (strA (quoteL x.path.data.toList))) from rfl)
                      have d6 := (Lib.cell_of_heap HF2 6).trans (show x.words[6]? = some (.string (strA (quoteL x.name.data.toList))) from rfl)
                      have d7 := (Lib.cell_of_heap HF2 7).trans (show x.words[7]? = some (.string (strA (quoteL x.data))) from rfl)
                      have e0 := (Lib.cell_of_heap HF1 0).trans (show zero8[0]? = some (.string ⟨#[]⟩) from rfl)
                      have e1 := (Lib.cell_of_heap HF1 1).trans (show zero8[1]? = some (.string ⟨#[]⟩) from rfl)
                      have e2 := (Lib.cell_of_heap HF1 2).trans (show zero8[2]? = some (.string ⟨#[]⟩) from rfl)
                      have e3 := (Lib.cell_of_heap HF1 3).trans (show zero8[3]? = some (.string ⟨#[]⟩) from rfl)
                      have e4 := (Lib.cell_of_heap HF1 4).trans (show zero8[4]? = some (.string ⟨#[]⟩) from rfl)
                      have e5 := (Lib.cell_of_heap HF1 5).trans (show zero8[5]? = some (.string ⟨#[]⟩) from rfl)
                      have e6 := (Lib.cell_of_heap HF1 6).trans (show zero8[6]? = some (.string ⟨#[]⟩) from rfl)
                      have e7 := (Lib.cell_of_heap HF1 7).trans (show zero8[7]? = some (.string ⟨#[]⟩) from rfl)
                      have g0 := Lib.frozen_of_heap HF1 0
                      have g1 := Lib.frozen_of_heap HF1 1
                      have g2 := Lib.frozen_of_heap HF1 2
                      have g3 := Lib.frozen_of_heap HF1 3
                      have g4 := Lib.frozen_of_heap HF1 4
                      have g5 := Lib.frozen_of_heap HF1 5
                      have g6 := Lib.frozen_of_heap HF1 6
                      have g7 := Lib.frozen_of_heap HF1 7
                      go_wp2_with fail
                      change bodyPost _ _ _ _ _ (setW (w.heap.size + 1) x w6)
                      exact bodyPost_ret (v := .agg x.words) (words_ret _ rfl (setW_block HF1)) rfl ⟨rfl, setW_below HF3.out (by omega)⟩
                    exact AllReadyH.nil
                  exact AllReadyH.nil
                exact AllReadyH.nil
              exact AllReadyH.nil
            exact AllReadyH.nil
          exact AllReadyH.nil
        refine AllReadyH.cons (i := 6) rfl (fun K hK => ?_) ?_
        · go_simp
          have HI2 := HI1.conv x.name
          have hb2 := conv_below ((Lib.bytesWorld wr.drew 5 x.path)) x.name
          have rc1 := Lib.hid (conv_rd (Lib.bytesWorld wr.drew 5 x.path) x.name)
          have sc1 : (Lib.bytesWorld wr.drew 5 x.path).heap.size < (Lib.bytesWorld (Lib.bytesWorld wr.drew 5 x.path) 5 x.name).heap.size := by have := Lib.bytesWorld_size (Lib.bytesWorld wr.drew 5 x.path) 5 x.name; omega
          replace rc0 := Lib.hid (rc0.out.below hb2)
          have sc0 := Nat.lt_of_lt_of_le sc0 hb2.size
          try clear hHeld
          refine hK.out _ _ HI2.S (fun hHeld => ?_)
          clear hK K
          try simp only [List.getElem_toArray, List.getElem_cons_zero, List.getElem_cons_succ, Act.put, List.setIfInBounds_toArray, List.set_cons_zero, List.set_cons_succ]
          refine wpAnyH_ready (rs := [3]) (by kernel_rfl) (by simp) ?_
          refine AllReadyH.cons (i := 3) rfl (fun K hK => ?_) ?_
          · go_simp
            refine (quote_str _ _ x.path _ rc0.out hx.hp).mono ?_
            rintro e w3 ⟨rfl, hb3⟩
            have HI3 := HI2.below hb3
            replace rc1 := Lib.hid (rc1.out.below hb3)
            have sc1 := Nat.lt_of_lt_of_le sc1 hb3.size
            try go_simp
            try clear hHeld
            refine hK.out _ _ HI3.S (fun hHeld => ?_)
            clear hK K
            try simp only [List.getElem_toArray, List.getElem_cons_zero, List.getElem_cons_succ, Act.put, List.setIfInBounds_toArray, List.set_cons_zero, List.set_cons_succ]
            refine wpAnyH_take (i := 11) (v := ?_) rfl (by kernel_rfl) (by kernel_rfl) (by kernel_rfl) (fun _ _ _ h => h) (Or.inl ⟨by rfl, ?_⟩) (by assumption) ?_
            rotate_left
            · intro w hSw; (try dsimp only at hSw); go_simp; try with_reducible rfl
            try simp only [List.getElem_toArray, List.getElem_cons_zero, List.getElem_cons_succ, Act.put, List.setIfInBounds_toArray, List.set_cons_zero, List.set_cons_succ]
            refine wpAnyH_ready (rs := [7]) (by kernel_rfl) (by simp) ?_
            refine AllReadyH.cons (i := 7) rfl (fun K hK => ?_) ?_
            · go_simp
              refine (quote_str _ _ x.name _ rc1.out hx.hn).mono ?_
              rintro e w4 ⟨rfl, hb4⟩
              have HI4 := HI3.below hb4
              try go_simp
              try clear hHeld
              refine hK.out _ _ HI4.S (fun hHeld => ?_)
              clear hK K
              try simp only [List.getElem_toArray, List.getElem_cons_zero, List.getElem_cons_succ, Act.put, List.setIfInBounds_toArray, List.set_cons_zero, List.set_cons_succ]
              refine wpAnyH_ready (rs := [10]) (by kernel_rfl) (by simp) ?_
              refine AllReadyH.cons (i := 10) rfl (fun K hK => ?_) ?_
              · go_simp
                have Hr2 : RdB w4 A x.data := Hr.out.below HI4.chg
                refine (quote_any A cap x.data _ Hr2 hx.hd).mono ?_
                rintro e w5 ⟨rfl, hb5⟩
                have HI5 := HI4.below hb5
                try go_simp
                try clear hHeld
                refine hK.out _ _ HI5.S (fun hHeld => ?_)
                clear hK K
                try simp only [List.getElem_toArray, List.getElem_cons_zero, List.getElem_cons_succ, Act.put, List.setIfInBounds_toArray, List.set_cons_zero, List.set_cons_succ]
                have f5 : w5.frozen? ⟨w.heap.size + 1 + 1, 5, none⟩ = false := Lib.frozen_of_heap HI5.b2 _
                have c5 : (w5).cell? ⟨w.heap.size + 1 + 1, 5, none⟩ = some (.string ⟨#[]⟩) := by rw [Lib.cell_of_heap HI5.b2]; rfl
                refine wpAnyH_ready (rs := [12]) (by kernel_rfl) (by simp) ?_
                refine AllReadyH.cons (i := 12) rfl (fun K hK => ?_) ?_
                · go_simp
                  try clear hHeld
                  refine hK.out _ _ (HI5.S.store 5 _) (fun hHeld => ?_)
                  clear hK K
                  try simp only [List.getElem_toArray, List.getElem_cons_zero, List.getElem_cons_succ, Act.put, List.setIfInBounds_toArray, List.set_cons_zero, List.set_cons_succ]
                  have HS1 := HI5.S.store 5 (.string (strA (quoteL x.path.data.toList)))
                  refine wpAnyH_take (i := 13) (v := ?_) rfl (by kernel_rfl) (by kernel_rfl) (by kernel_rfl) (fun _ _ _ h => h) (Or.inl ⟨by rfl, ?_⟩) (by assumption) ?_
                  rotate_left
                  · intro w hSw; (try dsimp only at hSw); go_simp; try with_reducible rfl
                  try simp only [List.getElem_toArray, List.getElem_cons_zero, List.getElem_cons_succ, Act.put, List.setIfInBounds_toArray, List.set_cons_zero, List.set_cons_succ]
                  have f6 : ((w5.setCell ⟨w.heap.size + 1 + 1, 5, none⟩ (.string (strA (quoteL x.path.data.toList))))).frozen? ⟨w.heap.size + 1 + 1, 6, none⟩ = false := by rw [frz_set]; exact Lib.frozen_of_heap HI5.b2 _
                  have c6 : ((w5.setCell ⟨w.heap.size + 1 + 1, 5, none⟩ (.string (strA (quoteL x.path.data.toList))))).cell? ⟨w.heap.size + 1 + 1, 6, none⟩ = some (.string ⟨#[]⟩) := by rw [World.cell?_setCell_other _ _ _ _ (by simp)]; rw [Lib.cell_of_heap HI5.b2]; rfl
                  refine wpAnyH_ready (rs := [14]) (by kernel_rfl) (by simp) ?_
                  refine AllReadyH.cons (i := 14) rfl (fun K hK => ?_) ?_
                  · go_simp
                    try clear hHeld
                    refine hK.out _ _ (HS1.store 6 _) (fun hHeld => ?_)
                    clear hK K
                    try simp only [List.getElem_toArray, List.getElem_cons_zero, List.getElem_cons_succ, Act.put, List.setIfInBounds_toArray, List.set_cons_zero, List.set_cons_succ]
                    have HS2 := HS1.store 6 (.string (strA (quoteL x.name.data.toList)))
                    refine wpAnyH_take (i := 15) (v := ?_) rfl (by kernel_rfl) (by kernel_rfl) (by kernel_rfl) (fun _ _ _ h => h) (Or.inl ⟨by rfl, ?_⟩) (by assumption) ?_
                    rotate_left
                    · intro w hSw; (try dsimp only at hSw); go_simp; try with_reducible rfl
                    try simp only [List.getElem_toArray, List.getElem_cons_zero, List.getElem_cons_succ, Act.put, List.setIfInBounds_toArray, List.set_cons_zero, List.set_cons_succ]
                    have f7 : (((w5.setCell ⟨w.heap.size + 1 + 1, 5, none⟩ (.string (strA (quoteL x.path.data.toList)))).setCell ⟨w.heap.size + 1 + 1, 6, none⟩ (.string (strA (quoteL x.name.data.toList))))).frozen? ⟨w.heap.size + 1 + 1, 7, none⟩ = false := by rw [frz_set, frz_set]; exact Lib.frozen_of_heap HI5.b2 _
                    have c7 : (((w5.setCell ⟨w.heap.size + 1 + 1, 5, none⟩ (.string (strA (quoteL x.path.data.toList)))).setCell ⟨w.heap.size + 1 + 1, 6, none⟩ (.string (strA (quoteL x.name.data.toList))))).cell? ⟨w.heap.size + 1 + 1, 7, none⟩ = some (.string ⟨#[]⟩) := by rw [World.cell?_setCell_other _ _ _ _ (by simp), World.cell?_setCell_other _ _ _ _ (by simp)]; rw [Lib.cell_of_heap HI5.b2]; rfl
                    refine wpAnyH_ready (rs := [16]) (by kernel_rfl) (by simp) ?_
                    refine AllReadyH.cons (i := 16) rfl (fun K hK => ?_) ?_
                    · go_simp
                      try clear hHeld
                      refine hK.out _ _ (HS2.store 7 _) (fun hHeld => ?_)
                      clear hK K
                      try simp only [List.getElem_toArray, List.getElem_cons_zero, List.getElem_cons_succ, Act.put, List.setIfInBounds_toArray, List.set_cons_zero, List.set_cons_succ]
                      have HS3 := HS2.store 7 (.string (strA (quoteL x.data)))
                      refine wpAnyH_done (by kernel_rfl) ?_ _
                      have HF := HI5.final
                      generalize (((w5.setCell ⟨w.heap.size + 1 + 1, 5, none⟩ (.string (strA (quoteL x.path.data.toList)))).setCell ⟨w.heap.size + 1 + 1, 6, none⟩ (.string (strA (quoteL x.name.data.toList)))).setCell ⟨w.heap.size + 1 + 1, 7, none⟩ (.string (strA (quoteL x.data)))) = w6 at HF ⊢
                      obtain ⟨HF1, HF2, HF3⟩ := HF
                      have HF3 := Lib.hid HF3
                      clear HS1 HS2 HS3 HI0 f5 f6 f7 c5 c6 c7
                      have d0 := (Lib.cell_of_heap HF2 0).trans (show x.words[0]? = some (.string (strA (Lib.itoa x.n0))) from rfl)
                      have d1 := (Lib.cell_of_heap HF2 1).trans (show x.words[1]? = some (.string (strA (Lib.itoa x.n1))) from rfl)
                      have d2 := (Lib.cell_of_heap HF2 2).trans (show x.words[2]? = some (.string (strA (Lib.itoa x.n2))) from rfl)
                      have d3 := (Lib.cell_of_heap HF2 3).trans (show x.words[3]? = some (.string (strA (Lib.itoa x.n3))) from rfl)
                      have d4 := (Lib.cell_of_heap HF2 4).trans (show x.words[4]? = some (.string (strA (Lib.itoa x.n4))) from rfl)
                      have d5 := (Lib.cell_of_heap HF2 5).trans (show x.words[5]? = some (.string (strA (quoteL x.path.data.toList))) from rfl)
                      have d6 := (Lib.cell_of_heap HF2 6).trans (show x.words[6]? = some (.string (strA (quoteL x.name.data.toList))) from rfl)
                      have d7 := (Lib.cell_of_heap HF2 7).trans (show x.words[7]? = some (.string (strA (quoteL x.data))) from rfl)
                      have e0 := (Lib.cell_of_heap HF1 0).trans (show zero8[0]? = some (.string ⟨#[]⟩) from rfl)
                      have e1 := (Lib.cell_of_heap HF1 1).trans (show zero8[1]? = some (.string ⟨#[]⟩) from rfl)
                      have e2 := (Lib.cell_of_heap HF1 2).trans (show zero8[2]? = some (.string ⟨#[]⟩) from rfl)
                      have e3 := (Lib.cell_of_heap HF1 3).trans (show zero8[3]? = some (.string ⟨#[]⟩) from rfl)
                      have e4 := (Lib.cell_of_heap HF1 4).trans (show zero8[4]? = some (.string ⟨#[]⟩) from rfl)
                      have e5 := (Lib.cell_of_heap HF1 5).trans (show zero8[5]? = some (.string ⟨#[]⟩) from rfl)
                      have e6 := (Lib.cell_of_heap HF1 6).trans (show zero8[6]? = some (.string ⟨#[]⟩) from rfl)
                      have e7 := (Lib.cell_of_heap HF1 7).trans (show zero8[7]? = some (.string ⟨#[]⟩) from rfl)
                      have g0 := Lib.frozen_of_heap HF1 0
                      have g1 := Lib.frozen_of_heap HF1 1
                      have g2 := Lib.frozen_of_heap HF1 2
                      have g3 := Lib.frozen_of_heap HF1 3
                      have g4 := Lib.frozen_of_heap HF1 4
                      have g5 := Lib.frozen_of_heap HF1 5
                      have g6 := Lib.frozen_of_heap HF1 6
                      have g7 := Lib.frozen_of_heap HF1 7
                      go_wp2_with fail
                      change bodyPost _ _ _ _ _ (setW (w.heap.size + 1) x w6)
                      exact bodyPost_ret (v := .agg x.words) (words_ret _ rfl (setW_block HF1)) rfl ⟨rfl, setW_below HF3.out (by omega)⟩
                    exact AllReadyH.nil
                  exact AllReadyH.nil
                exact AllReadyH.nil
              exact AllReadyH.nil
            exact AllReadyH.nil
          exact AllReadyH.nil
        exact AllReadyH.nil
      refine AllReadyH.cons (i := 6) rfl (fun K hK => ?_) ?_
      · go_simp
        have HI1 := HI0.conv x.name
        have hb1 := conv_below (wr.drew) x.name
        have rc1 := Lib.hid (conv_rd wr.drew x.name)
        have sc1 : wr.drew.heap.size < (Lib.bytesWorld wr.drew 5 x.name).heap.size := by have := Lib.bytesWorld_size wr.drew 5 x.name; omega
        try clear hHeld
        refine hK.out _ _ HI1.S (fun hHeld => ?_)
        clear hK K
        try simp only [List.getElem_toArray, List.getElem_cons_zero, List.getElem_cons_succ, Act.put, List.setIfInBounds_toArray, List.set_cons_zero, List.set_cons_succ]
        refine wpAnyH_ready (rs := [2]) (by kernel_rfl) (by simp) ?_
        refine AllReadyH.cons (i := 2) rfl (fun K hK => ?_) ?_
        · go_simp
          have HI2 := HI1.conv x.path
          have hb2 := conv_below ((Lib.bytesWorld wr.drew 5 x.name)) x.path
          have rc0 := Lib.hid (conv_rd (Lib.bytesWorld wr.drew 5 x.name) x.path)
          have sc0 : (Lib.bytesWorld wr.drew 5 x.name).heap.size < (Lib.bytesWorld (Lib.bytesWorld wr.drew 5 x.name) 5 x.path).heap.size := by have := Lib.bytesWorld_size (Lib.bytesWorld wr.drew 5 x.name) 5 x.path; omega
          replace rc1 := Lib.hid (rc1.out.below hb2)
          have sc1 := Nat.lt_of_lt_of_le sc1 hb2.size
          try clear hHeld
          refine hK.out _ _ HI2.S (fun hHeld => ?_)
          clear hK K
          try simp only [List.getElem_toArray, List.getElem_cons_zero, List.getElem_cons_succ, Act.put, List.setIfInBounds_toArray, List.set_cons_zero, List.set_cons_succ]
          refine wpAnyH_ready (rs := [3]) (by kernel_rfl) (by simp) ?_
          refine AllReadyH.cons (i := 3) rfl (fun K hK => ?_) ?_
          · go_simp
            refine (quote_str _ _ x.path _ rc0.out hx.hp).mono ?_
            rintro e w3 ⟨rfl, hb3⟩
            have HI3 := HI2.below hb3
            replace rc1 := Lib.hid (rc1.out.below hb3)
            have sc1 := Nat.lt_of_lt_of_le sc1 hb3.size
            try go_simp
            try clear hHeld
            refine hK.out _ _ HI3.S (fun hHeld => ?_)
            clear hK K
            try simp only [List.getElem_toArray, List.getElem_cons_zero, List.getElem_cons_succ, Act.put, List.setIfInBounds_toArray, List.set_cons_zero, List.set_cons_succ]
            refine wpAnyH_take (i := 11) (v := ?_) rfl (by kernel_rfl) (by kernel_rfl) (by kernel_rfl) (fun _ _ _ h => h) (Or.inl ⟨by rfl, ?_⟩) (by assumption) ?_
            rotate_left
            · intro w hSw; (try dsimp only at hSw); go_simp; try with_reducible rfl
            try simp only [List.getElem_toArray, List.getElem_cons_zero, List.getElem_cons_succ, Act.put, List.setIfInBounds_toArray, List.set_cons_zero, List.set_cons_succ]
            refine wpAnyH_ready (rs := [7]) (by kernel_rfl) (by simp) ?_
            refine AllReadyH.cons (i := 7) rfl (fun K hK => ?_) ?_
            · go_simp
              refine (quote_str _ _ x.name _ rc1.out hx.hn).mono ?_
              rintro e w4 ⟨rfl, hb4⟩
              have HI4 := HI3.below hb4
              try go_simp
              try clear hHeld
              refine hK.out _ _ HI4.S (fun hHeld => ?_)
              clear hK K
              try simp only [List.getElem_toArray, List.getElem_cons_zero, List.getElem_cons_succ, Act.put, List.setIfInBounds_toArray, List.set_cons_zero, List.set_cons_succ]
              refine wpAnyH_ready (rs := [10]) (by kernel_rfl) (by simp) ?_
              refine AllReadyH.cons (i := 10) rfl (fun K hK => ?_) ?_
              · go_simp
                have Hr2 : RdB w4 A x.data := Hr.out.below HI4.chg
                refine (quote_any A cap x.data _ Hr2 hx.hd).mono ?_
                rintro e w5 ⟨rfl, hb5⟩
                have HI5 := HI4.below hb5
                try go_simp
                try clear hHeld
                refine hK.out _ _ HI5.S (fun hHeld => ?_)
                clear hK K
                try simp only [List.getElem_toArray, List.getElem_cons_zero, List.getElem_cons_succ, Act.put, List.setIfInBounds_toArray, List.set_cons_zero, List.set_cons_succ]
                have f5 : w5.frozen? ⟨w.heap.size + 1 + 1, 5, none⟩ = false := Lib.frozen_of_heap HI5.b2 _
                have c5 : (w5).cell? ⟨w.heap.size + 1 + 1, 5, none⟩ = some (.string ⟨#[]⟩) := by rw [Lib.cell_of_heap HI5.b2]; rfl
                refine wpAnyH_ready (rs := [12]) (by kernel_rfl) (by simp) ?_
                refine AllReadyH.cons (i := 12) rfl (fun K hK => ?_) ?_
                · go_simp
                  try clear hHeld
                  refine hK.out _ _ (HI5.S.store 5 _) (fun hHeld => ?_)
                  clear hK K
                  try simp only [List.getElem_toArray, List.getElem_cons_zero, List.getElem_cons_succ, Act.put, List.setIfInBounds_toArray, List.set_cons_zero, List.set_cons_succ]
                  have HS1 := HI5.S.store 5 (.string (strA (quoteL x.path.data.toList)))
                  refine wpAnyH_take (i := 13) (v := ?_) rfl (by kernel_rfl) (by kernel_rfl) (by kernel_rfl) (fun _ _ _ h => h) (Or.inl ⟨by rfl, ?_⟩) (by assumption) ?_
                  rotate_left
                  · intro w hSw; (try dsimp only at hSw); go_simp; try with_reducible rfl
                  try simp only [List.getElem_toArray, List.getElem_cons_zero, List.getElem_cons_succ, Act.put, List.setIfInBounds_toArray, List.set_cons_zero, List.set_cons_succ]
                  have f6 : ((w5.setCell ⟨w.heap.size + 1 + 1, 5, none⟩ (.string (strA (quoteL x.path.data.toList))))).frozen? ⟨w.heap.size + 1 + 1, 6, none⟩ = false := by rw [frz_set]; exact Lib.frozen_of_heap HI5.b2 _
                  have c6 : ((w5.setCell ⟨w.heap.size + 1 + 1, 5, none⟩ (.string (strA (quoteL x.path.data.toList))))).cell? ⟨w.heap.size + 1 + 1, 6, none⟩ = some (.string ⟨#[]⟩) := by rw [World.cell?_setCell_other _ _ _ _ (by simp)]; rw [Lib.cell_of_heap HI5.b2]; rfl
                  refine wpAnyH_ready (rs := [14]) (by kernel_rfl) (by simp) ?_
                  refine AllReadyH.cons (i := 14) rfl (fun K hK => ?_) ?_
                  · go_simp
                    try clear hHeld
                    refine hK.out _ _ (HS1.store 6 _) (fun hHeld => ?_)
                    clear hK K
                    try simp only [List.getElem_toArray, List.getElem_cons_zero, List.getElem_cons_succ, Act.put, List.setIfInBounds_toArray, List.set_cons_zero, List.set_cons_succ]
                    have HS2 := HS1.store 6 (.string (strA (quoteL x.name.data.toList)))
                    refine wpAnyH_take (i := 15) (v := ?_) rfl (by kernel_rfl) (by kernel_rfl) (by kernel_rfl) (fun _ _ _ h => h) (Or.inl ⟨by rfl, ?_⟩) (by assumption) ?_
                    rotate_left
                    · intro w hSw; (try dsimp only at hSw); go_simp; try with_reducible rfl
                    try simp only [List.getElem_toArray, List.getElem_cons_zero, List.getElem_cons_succ, Act.put, List.setIfInBounds_toArray, List.set_cons_zero, List.set_cons_succ]
                    have f7 : (((w5.setCell ⟨w.heap.size + 1 + 1, 5, none⟩ (.string (strA (quoteL x.path.data.toList)))).setCell ⟨w.heap.size + 1 + 1, 6, none⟩ (.string (strA (quoteL x.name.data.toList))))).frozen? ⟨w.heap.size + 1 + 1, 7, none⟩ = false := by rw [frz_set, frz_set]; exact Lib.frozen_of_heap HI5.b2 _
                    have c7 : (((w5.setCell ⟨w.heap.size + 1 + 1, 5, none⟩ (.string (strA (quoteL x.path.data.toList)))).setCell ⟨w.heap.size + 1 + 1, 6, none⟩ (.string (strA (quoteL x.name.data.toList))))).cell? ⟨w.heap.size + 1 + 1, 7, none⟩ = some (.string ⟨#[]⟩) := by rw [World.cell?_setCell_other _ _ _ _ (by simp), World.cell?_setCell_other _ _ _ _ (by simp)]; rw [Lib.cell_of_heap HI5.b2]; rfl
                    refine wpAnyH_ready (rs := [16]) (by kernel_rfl) (by simp) ?_
                    refine AllReadyH.cons (i := 16) rfl (fun K hK => ?_) ?_
                    · go_simp
                      try clear hHeld
                      refine hK.out _ _ (HS2.store 7 _) (fun hHeld => ?_)
                      clear hK K
                      try simp only [List.getElem_toArray, List.getElem_cons_zero, List.getElem_cons_succ, Act.put, List.setIfInBounds_toArray, List.set_cons_zero, List.set_cons_succ]
                      have HS3 := HS2.store 7 (.string (strA (quoteL x.data)))
                      refine wpAnyH_done (by kernel_rfl) ?_ _
                      have HF := HI5.final
                      generalize (((w5.setCell ⟨w.heap.size + 1 + 1, 5, none⟩ (.string (strA (quoteL x.path.data.toList)))).setCell ⟨w.heap.size + 1 + 1, 6, none⟩ (.string (strA (quoteL x.name.data.toList)))).setCell ⟨w.heap.size + 1 + 1, 7, none⟩ (.string (strA (quoteL x.data)))) = w6 at HF ⊢
                      obtain ⟨HF1, HF2, HF3⟩ := HF
                      have HF3 := Lib.hid HF3
                      clear HS1 HS2 HS3 HI0 f5 f6 f7 c5 c6 c7
                      have d0 := (Lib.cell_of_heap HF2 0).trans (show x.words[0]? = some (.string (strA (Lib.itoa x.n0))) from rfl)
                      have d1 := (Lib.cell_of_heap HF2 1).trans (show x.words[1]? = some (.string (strA (Lib.itoa x.n1))) from rfl)
                      have d2 := (Lib.cell_of_heap HF2 2).trans (show x.words[2]? = some (.string (strA (Lib.itoa x.n2))) from rfl)
                      have d3 := (Lib.cell_of_heap HF2 3).trans (show x.words[3]? = some (.string (strA (Lib.itoa x.n3))) from rfl)
                      have d4 := (Lib.cell_of_heap HF2 4).trans (show x.words[4]? = some (.string (strA (Lib.itoa x.n4))) from rfl)
                      have d5 := (Lib.cell_of_heap HF2 5).trans (show x.words[5]? = some (.string (strA (quoteL x.path.data.toList))) from rfl)
                      have d6 := (Lib.cell_of_heap HF2 6).trans (show x.words[6]? = some (.string (strA (quoteL x.name.data.toList))) from rfl)
                      have d7 := (Lib.cell_of_heap HF2 7).trans (show x.words[7]? = some (.string (strA (quoteL x.data))) from rfl)
                      have e0 := (Lib.cell_of_heap HF1 0).trans (show zero8[0]? = some (.string ⟨#[]⟩) from rfl)
                      have e1 := (Lib.cell_of_heap HF1 1).trans (show zero8[1]? = some (.string ⟨#[]⟩) from rfl)
                      have e2 := (Lib.cell_of_heap HF1 2).trans (show zero8[2]? = some (.string ⟨#[]⟩) from rfl)
                      have e3 := (Lib.cell_of_heap HF1 3).trans (show zero8[3]? = some (.string ⟨#[]⟩) from rfl)
                      have e4 := (Lib.cell_of_heap HF1 4).trans (show zero8[4]? = some (.string ⟨#[]⟩) from rfl)
                      have e5 := (Lib.cell_of_heap HF1 5).trans (show zero8[5]? = some (.string ⟨#[]⟩) from rfl)
                      have e6 := (Lib.cell_of_heap HF1 6).trans (show zero8[6]? = some (.string ⟨#[]⟩) from rfl)
                      have e7 := (Lib.cell_of_heap HF1 7).trans (show zero8[7]? = some (.string ⟨#[]⟩) from rfl)
                      have g0 := Lib.frozen_of_heap HF1 0
                      have g1 := Lib.frozen_of_heap HF1 1
                      have g2 := Lib.frozen_of_heap HF1 2
                      have g3 := Lib.frozen_of_heap HF1 3
                      have g4 := Lib.frozen_of_heap HF1 4
                      have g5 := Lib.frozen_of_heap HF1 5
                      have g6 := Lib.frozen_of_heap HF1 6
                      have g7 := Lib.frozen_of_heap HF1 7
                      go_wp2_with fail
                      change bodyPost _ _ _ _ _ (setW (w.heap.size + 1) x w6)
                      exact bodyPost_ret (v := .agg x.words) (words_ret _ rfl (setW_block HF1)) rfl ⟨rfl, setW_below HF3.out (by omega)⟩
                    exact AllReadyH.nil
                  exact AllReadyH.nil
                exact AllReadyH.nil
              exact AllReadyH.nil
            exact AllReadyH.nil
          exact AllReadyH.nil
        exact AllReadyH.nil
      exact AllReadyH.nil

end Go.Proofs.YtnkhakomjklfmaaDoor
