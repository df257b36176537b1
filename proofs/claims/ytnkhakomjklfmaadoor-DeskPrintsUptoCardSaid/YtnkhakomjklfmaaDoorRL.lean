/- The reference's Line comes to the same line. -/
import Derived.Test.YtnkhakomjklfmaaDoorPr
namespace Go.Proofs.YtnkhakomjklfmaaDoor
set_option linter.unusedVariables false
set_option linter.unusedSimpArgs false
open Go.RowKit Go.Sort PDeskPrints YtnkhakomjklfmaaDoorW.PrintWords

/-- The event's box, while the call goes on. -/
structure LB (x : Ev) (A : Option Addr) (cap : Nat) (w : World) (wr : World) : Prop where
  b0 : wr.heap[w.heap.size]? = some (.cells (x.cells A cap) 37 (0, 0))
  chg : Below w.heap.size w wr
theorem LB.below {x : Ev} {A : Option Addr} {cap : Nat} {w wr w2 : World} (h : LB x A cap w wr) (hb : Below wr.heap.size wr w2) : LB x A cap w w2 :=
  ⟨Below.at hb h.b0 (lt_of_heap h.b0), h.chg.trans (hb.mono h.chg.size)⟩
theorem LB.S {x : Ev} {A : Option Addr} {cap : Nat} {w wr : World} (h : LB x A cap w wr) : wr.cell? ⟨w.heap.size, 0, none⟩ = some (.int .i64 x.n0) ∧ wr.cell? ⟨w.heap.size, 1, none⟩ = some (.int .i64 x.n1) ∧ wr.cell? ⟨w.heap.size, 2, none⟩ = some (.int .i64 x.n2) ∧
    wr.cell? ⟨w.heap.size, 3, none⟩ = some (.int .i64 x.n3) ∧ wr.cell? ⟨w.heap.size, 4, none⟩ = some (.int .i64 x.n4) ∧ wr.cell? ⟨w.heap.size, 5, none⟩ = some (.string x.path) ∧ wr.cell? ⟨w.heap.size, 6, none⟩ = some (.string x.name) ∧ wr.cell? ⟨w.heap.size, 7, none⟩ = some (.slice A x.data.length cap) := by
  refine ⟨?_, ?_, ?_, ?_, ?_, ?_, ?_, ?_⟩ <;> (rw [Lib.cell_of_heap h.b0]; rfl)
theorem rquote_str (ad : Addr) (cap : Nat) (s : ByteArray) (w : World) (hr : RdB w (some ad) s.data.toList) (hl : s.size ≤ 1048576) :
    Calls Tryd.prog 19 #[.slice (some ad) s.size cap] w fun e w' => e = .returned (.string (strA (quoteL s.data.toList))) ∧ Below w.heap.size w w' := by
  have e : s.size = s.data.toList.length := by simp
  rw [e]
  exact refquote_any (some ad) cap s.data.toList w hr (by rw [← e]; exact hl)
theorem dag_start {P : Program} {md : Region.Mode} {ops : Array Oper} {Q : Exit → Act → World → Prop} {S : World → Prop} {fuel : Nat} {listed : Array Bool} {a : Act} {w : World}
    (h : ∀ R : Nat → Array Bool → Act → World → Prop, R = wpAnyH P md ops Q S → R fuel listed a w) : wpAnyH P md ops Q S fuel listed a w := h _ rfl
theorem R_of {R : Nat → Array Bool → Act → World → Prop} {fuel : Nat} {listed lit : Array Bool} {a : Act} {w : World} (h : listed = lit) (k : R fuel lit a w) : R fuel listed a w := h ▸ k

theorem join_snoc (l : List (List UInt8)) (i : Nat) (s : List UInt8) (h0 : 1 ≤ i) (hs : l[i]? = some s) : Lib.join (l.take (i + 1)) [32] = Lib.join (l.take i) [32] ++ [32] ++ s := by
  cases l with
  | nil => cases hs
  | cons a r =>
    obtain ⟨j, rfl⟩ : ∃ j, i = j + 1 := ⟨i - 1, by omega⟩
    rw [List.take_succ_cons, List.take_succ_cons, Lib.join_cons, Lib.join_cons, Lib.joinTail_take_succ [32] r j s (by simpa using hs)]
    simp [List.append_assoc]
theorem strA_size (l : List UInt8) : (strA l).size = l.length := by simp [strA, ByteArray.size]
theorem one_word (x : Ev) : Lib.join (x.wl.take 1) [32] = Lib.itoa x.n0 := by
  show Lib.join [Lib.itoa x.n0] [32] = _
  rw [Lib.join_one]
theorem word_le {x : Ev} (hx : x.ok) (j : Nat) : (x.wl.getD j []).length ≤ 3145730 := by
  rcases Nat.lt_or_ge j x.wl.length with h | h
  · have : x.wl.getD j [] = x.wl[j] := by simp [List.getD, h]
    rw [this]
    exact Ev.wl_le hx _ (List.getElem_mem h)
  · simp [List.getD, List.getElem?_eq_none h]
theorem word_at (x : Ev) (j : Nat) (b : List UInt8) (h : j < 8) (hb : x.wl.getD j [] = b) : x.wl[j]? = some b := by
  have hl : j < x.wl.length := h
  rw [List.getElem?_eq_getElem hl]
  rw [← hb]
  simp [List.getD, hl]
theorem pre_le {x : Ev} (hx : x.ok) (j : Nat) : (Lib.join (x.wl.take j) [32]).length ≤ 25165848 := by
  have h := lens_le (x.wl.take j) 3145730 (fun s hs => Ev.wl_le hx s (List.mem_of_mem_take hs))
  have h2 : (x.wl.take j).length ≤ 8 := by rw [List.length_take]; simp [Ev.wl]; omega
  have : (x.wl.take j).length * (3145730 + 1) ≤ 8 * 3145731 := Nat.mul_le_mul h2 (Nat.le_refl _)
  omega
theorem none_wl (m : Nat) : Ev.none.wl.getD m [] = if m < 5 then [48] else if m < 8 then [34, 34] else [] := by
  have z : Lib.itoa 0 = [48] := by rw [Lib.itoa, if_neg (by omega)]; rw [show (0 : Int).toNat = 0 from rfl, Lib.decDigits]; rfl
  have e : Ev.none.wl = [[48], [48], [48], [48], [48], [34, 34], [34, 34], [34, 34]] := by simp [Ev.wl, Ev.none, z, quoteL]
  rw [e]
  by_cases h : m < 8
  · have : m = 0 ∨ m = 1 ∨ m = 2 ∨ m = 3 ∨ m = 4 ∨ m = 5 ∨ m = 6 ∨ m = 7 := by omega
    rcases this with rfl | rfl | rfl | rfl | rfl | rfl | rfl | rfl <;> rfl
  · rw [if_neg (by omega), if_neg h]
    rw [List.getD, List.getElem?_eq_none (by simp; omega)]; rfl

set_option maxHeartbeats 8000000 in
set_option maxRecDepth 100000 in
theorem refline_any (x : Ev) (hx : x.ok) (A : Option Addr) (cap : Nat) (w : World) (ht : Tab w) (hB : 8 ≤ w.heap.size) (hr : RdB w A x.data) :
    Calls Tryd.prog 16 #[.agg (x.cells A cap)] w fun e w' => e = .returned (.string (strA x.line)) ∧ Below w.heap.size w w' := by
  have Hr := Lib.hid hr; clear hr
  have HL0 : LB x A cap w (w.alloc (.cells (x.cells A cap) 37)) := ⟨heap_alloc_new w _, (Below.refl _ w).alloc (Nat.le_refl _) _⟩
  have HL1 : LB x A cap w (w.alloc (.cells (x.cells A cap) 37)).drew := ⟨HL0.b0, HL0.chg.drew⟩
  clear HL0
  unfold Ev.cells at HL1
  unfold Ev.cells
  have hcv := fun (W : World) (t : ByteArray) => Lib.run_convert_string_bytes (P := Tryd.prog) W 9 33 5 t Tryd.underlying9 Tryd.underlying33 Tryd.underlying5
  go_enter Tryd.func16, Tryd.ntmps16
  go_wp2_with fail
  refine wp_region_held_drew (S := fun wr => wr.cell? ⟨w.heap.size, 0, none⟩ = some (.int .i64 x.n0) ∧ wr.cell? ⟨w.heap.size, 1, none⟩ = some (.int .i64 x.n1) ∧ wr.cell? ⟨w.heap.size, 2, none⟩ = some (.int .i64 x.n2) ∧ wr.cell? ⟨w.heap.size, 3, none⟩ = some (.int .i64 x.n3) ∧ wr.cell? ⟨w.heap.size, 4, none⟩ = some (.int .i64 x.n4) ∧ wr.cell? ⟨w.heap.size, 5, none⟩ = some (.string x.path) ∧ wr.cell? ⟨w.heap.size, 6, none⟩ = some (.string x.name) ∧ wr.cell? ⟨w.heap.size, 7, none⟩ = some (.slice A x.data.length cap)) (by kernel_rfl) HL1.S (fun hHeld => ?_)
  refine wpAnyH_take (i := 0) (v := ?_) rfl (by kernel_rfl) (by kernel_rfl) (by kernel_rfl) (fun _ _ _ h => h) (Or.inl ⟨by rfl, ?_⟩) (by assumption) ?_
  rotate_left
  · intro w hSw; (try dsimp only at hSw); go_simp; try with_reducible rfl
  try simp only [List.getElem_toArray, List.getElem_cons_zero, List.getElem_cons_succ, Act.put, List.setIfInBounds_toArray, List.set_cons_zero, List.set_cons_succ]
  refine wpAnyH_take (i := 1) (v := ?_) rfl (by kernel_rfl) (by kernel_rfl) (by kernel_rfl) (fun _ _ _ h => h) (Or.inl ⟨by rfl, ?_⟩) (by assumption) ?_
  rotate_left
  · intro w hSw; (try dsimp only at hSw); go_simp; try with_reducible rfl
  try simp only [List.getElem_toArray, List.getElem_cons_zero, List.getElem_cons_succ, Act.put, List.setIfInBounds_toArray, List.set_cons_zero, List.set_cons_succ]
  refine wpAnyH_take (i := 3) (v := ?_) rfl (by kernel_rfl) (by kernel_rfl) (by kernel_rfl) (fun _ _ _ h => h) (Or.inl ⟨by rfl, ?_⟩) (by assumption) ?_
  rotate_left
  · intro w hSw; (try dsimp only at hSw); go_simp; try with_reducible rfl
  try simp only [List.getElem_toArray, List.getElem_cons_zero, List.getElem_cons_succ, Act.put, List.setIfInBounds_toArray, List.set_cons_zero, List.set_cons_succ]
  refine wpAnyH_take (i := 4) (v := ?_) rfl (by kernel_rfl) (by kernel_rfl) (by kernel_rfl) (fun _ _ _ h => h) (Or.inl ⟨by rfl, ?_⟩) (by assumption) ?_
  rotate_left
  · intro w hSw; (try dsimp only at hSw); go_simp; try with_reducible rfl
  try simp only [List.getElem_toArray, List.getElem_cons_zero, List.getElem_cons_succ, Act.put, List.setIfInBounds_toArray, List.set_cons_zero, List.set_cons_succ]
  refine wpAnyH_take (i := 6) (v := ?_) rfl (by kernel_rfl) (by kernel_rfl) (by kernel_rfl) (fun _ _ _ h => h) (Or.inl ⟨by rfl, ?_⟩) (by assumption) ?_
  rotate_left
  · intro w hSw; (try dsimp only at hSw); go_simp; try with_reducible rfl
  try simp only [List.getElem_toArray, List.getElem_cons_zero, List.getElem_cons_succ, Act.put, List.setIfInBounds_toArray, List.set_cons_zero, List.set_cons_succ]
  refine wpAnyH_take (i := 7) (v := ?_) rfl (by kernel_rfl) (by kernel_rfl) (by kernel_rfl) (fun _ _ _ h => h) (Or.inl ⟨by rfl, ?_⟩) (by assumption) ?_
  rotate_left
  · intro w hSw; (try dsimp only at hSw); go_simp; try with_reducible rfl
  try simp only [List.getElem_toArray, List.getElem_cons_zero, List.getElem_cons_succ, Act.put, List.setIfInBounds_toArray, List.set_cons_zero, List.set_cons_succ]
  refine wpAnyH_take (i := 9) (v := ?_) rfl (by kernel_rfl) (by kernel_rfl) (by kernel_rfl) (fun _ _ _ h => h) (Or.inl ⟨by rfl, ?_⟩) (by assumption) ?_
  rotate_left
  · intro w hSw; (try dsimp only at hSw); go_simp; try with_reducible rfl
  try simp only [List.getElem_toArray, List.getElem_cons_zero, List.getElem_cons_succ, Act.put, List.setIfInBounds_toArray, List.set_cons_zero, List.set_cons_succ]
  refine wpAnyH_take (i := 10) (v := ?_) rfl (by kernel_rfl) (by kernel_rfl) (by kernel_rfl) (fun _ _ _ h => h) (Or.inl ⟨by rfl, ?_⟩) (by assumption) ?_
  rotate_left
  · intro w hSw; (try dsimp only at hSw); go_simp; try with_reducible rfl
  try simp only [List.getElem_toArray, List.getElem_cons_zero, List.getElem_cons_succ, Act.put, List.setIfInBounds_toArray, List.set_cons_zero, List.set_cons_succ]
  refine wpAnyH_take (i := 12) (v := ?_) rfl (by kernel_rfl) (by kernel_rfl) (by kernel_rfl) (fun _ _ _ h => h) (Or.inl ⟨by rfl, ?_⟩) (by assumption) ?_
  rotate_left
  · intro w hSw; (try dsimp only at hSw); go_simp; try with_reducible rfl
  try simp only [List.getElem_toArray, List.getElem_cons_zero, List.getElem_cons_succ, Act.put, List.setIfInBounds_toArray, List.set_cons_zero, List.set_cons_succ]
  refine wpAnyH_take (i := 13) (v := ?_) rfl (by kernel_rfl) (by kernel_rfl) (by kernel_rfl) (fun _ _ _ h => h) (Or.inl ⟨by rfl, ?_⟩) (by assumption) ?_
  rotate_left
  · intro w hSw; (try dsimp only at hSw); go_simp; try with_reducible rfl
  try simp only [List.getElem_toArray, List.getElem_cons_zero, List.getElem_cons_succ, Act.put, List.setIfInBounds_toArray, List.set_cons_zero, List.set_cons_succ]
  refine wpAnyH_take (i := 15) (v := ?_) rfl (by kernel_rfl) (by kernel_rfl) (by kernel_rfl) (fun _ _ _ h => h) (Or.inl ⟨by rfl, ?_⟩) (by assumption) ?_
  rotate_left
  · intro w hSw; (try dsimp only at hSw); go_simp; try with_reducible rfl
  try simp only [List.getElem_toArray, List.getElem_cons_zero, List.getElem_cons_succ, Act.put, List.setIfInBounds_toArray, List.set_cons_zero, List.set_cons_succ]
  refine wpAnyH_take (i := 16) (v := ?_) rfl (by kernel_rfl) (by kernel_rfl) (by kernel_rfl) (fun _ _ _ h => h) (Or.inl ⟨by rfl, ?_⟩) (by assumption) ?_
  rotate_left
  · intro w hSw; (try dsimp only at hSw); go_simp; try with_reducible rfl
  try simp only [List.getElem_toArray, List.getElem_cons_zero, List.getElem_cons_succ, Act.put, List.setIfInBounds_toArray, List.set_cons_zero, List.set_cons_succ]
  refine wpAnyH_take (i := 19) (v := ?_) rfl (by kernel_rfl) (by kernel_rfl) (by kernel_rfl) (fun _ _ _ h => h) (Or.inl ⟨by rfl, ?_⟩) (by assumption) ?_
  rotate_left
  · intro w hSw; (try dsimp only at hSw); go_simp; try with_reducible rfl
  try simp only [List.getElem_toArray, List.getElem_cons_zero, List.getElem_cons_succ, Act.put, List.setIfInBounds_toArray, List.set_cons_zero, List.set_cons_succ]
  refine wpAnyH_take (i := 20) (v := ?_) rfl (by kernel_rfl) (by kernel_rfl) (by kernel_rfl) (fun _ _ _ h => h) (Or.inl ⟨by rfl, ?_⟩) (by assumption) ?_
  rotate_left
  · intro w hSw; (try dsimp only at hSw); go_simp; try with_reducible rfl
  try simp only [List.getElem_toArray, List.getElem_cons_zero, List.getElem_cons_succ, Act.put, List.setIfInBounds_toArray, List.set_cons_zero, List.set_cons_succ]
  refine wpAnyH_take (i := 23) (v := ?_) rfl (by kernel_rfl) (by kernel_rfl) (by kernel_rfl) (fun _ _ _ h => h) (Or.inl ⟨by rfl, ?_⟩) (by assumption) ?_
  rotate_left
  · intro w hSw; (try dsimp only at hSw); go_simp; try with_reducible rfl
  try simp only [List.getElem_toArray, List.getElem_cons_zero, List.getElem_cons_succ, Act.put, List.setIfInBounds_toArray, List.set_cons_zero, List.set_cons_succ]
  refine wpAnyH_take (i := 24) (v := ?_) rfl (by kernel_rfl) (by kernel_rfl) (by kernel_rfl) (fun _ _ _ h => h) (Or.inl ⟨by rfl, ?_⟩) (by assumption) ?_
  rotate_left
  · intro w hSw; (try dsimp only at hSw); go_simp; try with_reducible rfl
  try simp only [List.getElem_toArray, List.getElem_cons_zero, List.getElem_cons_succ, Act.put, List.setIfInBounds_toArray, List.set_cons_zero, List.set_cons_succ]
  clear hHeld
  refine dag_start (fun R hR => ?_)
  have H_8_1_1 : ∀ (W : World) (va : Value) (vb : Value), LB x A cap w W → R 2 #[true, true, true, true, true, true, true, true, true, true, true, true, true, true, true, true, true, true, true, true, true, true, true, true, true, true, false, false] ⟨#[.agg #[.int .i64 x.n0, .int .i64 x.n1, .int .i64 x.n2, .int .i64 x.n3, .int .i64 x.n4, .string x.path, .string x.name, .slice A x.data.length cap], .pointer (some ⟨w.heap.size, 0, none⟩), .string ⟨#[]⟩, undef, undef, undef, undef, .pointer (some ⟨w.heap.size, 0, none⟩), .int .i64 x.n0, .string (strA (Lib.itoa x.n0)), .pointer (some ⟨w.heap.size, 1, none⟩), .int .i64 x.n1, .string (strA (Lib.itoa x.n1)), .pointer (some ⟨w.heap.size, 2, none⟩), .int .i64 x.n2, .string (strA (Lib.itoa x.n2)), .pointer (some ⟨w.heap.size, 3, none⟩), .int .i64 x.n3, .string (strA (Lib.itoa x.n3)), .pointer (some ⟨w.heap.size, 4, none⟩), .int .i64 x.n4, .string (strA (Lib.itoa x.n4)), .pointer (some ⟨w.heap.size, 5, none⟩), .string x.path, va, .string (strA (quoteL x.path.data.toList)), .pointer (some ⟨w.heap.size, 6, none⟩), .string x.name, vb, .string (strA (quoteL x.name.data.toList)), .pointer (some ⟨w.heap.size, 7, none⟩), .slice A x.data.length cap, .string (strA (quoteL x.data)), undef, undef, undef, undef, undef, undef, undef, undef, undef, undef, undef, undef, undef, undef, undef, undef, undef, undef, undef, undef, undef, undef, undef, undef, undef, undef, undef, undef, undef, undef, undef, undef, undef, undef, undef, undef, undef, undef, undef, undef, undef, undef, undef, undef, undef, undef, undef], []⟩ W := by
    intro W va vb HL
    rw [hR]
    refine wpAnyH_ready (rs := [26]) (by kernel_rfl) (by simp) ?_
    refine AllReadyH.cons (i := 26) rfl (fun K hK => ?_) ?_
    · go_simp
      try clear hHeld
      refine hK.out _ _ (HL.below ((Below.refl _ W).alloc (Nat.le_refl _) _)).S (fun hHeld => ?_)
      clear hK K
      try simp only [List.getElem_toArray, List.getElem_cons_zero, List.getElem_cons_succ, Act.put, List.setIfInBounds_toArray, List.set_cons_zero, List.set_cons_succ]
      refine wpAnyH_ready (rs := [27]) (by kernel_rfl) (by simp) ?_
      refine AllReadyH.cons (i := 27) rfl (fun K hK => ?_) ?_
      · go_simp
        try clear hHeld
        refine hK.out _ _ (HL.below ((Below.refl _ W).alloc (Nat.le_refl _) _)).S (fun hHeld => ?_)
        clear hK K
        try simp only [List.getElem_toArray, List.getElem_cons_zero, List.getElem_cons_succ, Act.put, List.setIfInBounds_toArray, List.set_cons_zero, List.set_cons_succ]
        refine wpAnyH_done (by kernel_rfl) ?_ _
        clear hR hHeld
        have hcw : ∀ m, m < 8 → (W.alloc (.cells #[.string (strA (Lib.itoa x.n0)), .string (strA (Lib.itoa x.n1)), .string (strA (Lib.itoa x.n2)), .string (strA (Lib.itoa x.n3)), .string (strA (Lib.itoa x.n4)), .string (strA (quoteL x.path.data.toList)), .string (strA (quoteL x.name.data.toList)), .string (strA (quoteL x.data))] 9)).cell? ⟨W.heap.size, m, none⟩ = some (.string (strA (x.wl.getD m []))) := by
          intro m hm
          rw [Lib.cell_of_heap (heap_alloc_new W _)]
          exact words_at x m hm
        have HCW := Lib.hid hcw
        have hch := Lib.hid (HL.chg.alloc HL.chg.size (.cells #[.string (strA (Lib.itoa x.n0)), .string (strA (Lib.itoa x.n1)), .string (strA (Lib.itoa x.n2)), .string (strA (Lib.itoa x.n3)), .string (strA (Lib.itoa x.n4)), .string (strA (quoteL x.path.data.toList)), .string (strA (quoteL x.name.data.toList)), .string (strA (quoteL x.data))] 9))
        clear hcw HL
        generalize (W.alloc (.cells #[.string (strA (Lib.itoa x.n0)), .string (strA (Lib.itoa x.n1)), .string (strA (Lib.itoa x.n2)), .string (strA (Lib.itoa x.n3)), .string (strA (Lib.itoa x.n4)), .string (strA (quoteL x.path.data.toList)), .string (strA (quoteL x.name.data.toList)), .string (strA (quoteL x.data))] 9)) = W2 at HCW hch ⊢
        generalize W.heap.size = N at HCW ⊢
        go_wp2_with fail
        go_loop [4] (fun i => ∃ k : Nat, 1 ≤ k ∧ k ≤ 8 ∧ i = .int .i64 k ∧ trimW x.wl Ev.none.wl 8 = trimW x.wl Ev.none.wl k) (fun i => (intOf i).toNat)
        case atStart => exact ⟨8, by omega, by omega, rfl, rfl⟩
        case round =>
          obtain ⟨k, hk1, hk8, rfl, Htr⟩ := hrel
          have HTR := Lib.hid Htr
          clear Htr
          by_cases h1 : k = 1
          · subst h1
            have c0 := HCW.out 0 (by omega)
            have HTR2 := Lib.hid (show trimW x.wl Ev.none.wl 8 = 1 by rw [HTR.out, trimW, if_neg (by omega)])
            have hw0 : x.wl.getD 0 [] = Lib.itoa x.n0 := rfl
            rw [hw0] at c0
            clear hw0
            go_wp2_with fail
            go_loop [5, 6] (fun s i => ∃ j : Nat, 1 ≤ j ∧ j ≤ 1 ∧ i = .int .i64 j ∧ s = .string (strA (Lib.join (x.wl.take j) [32]))) (fun _ i => 1 - (intOf i).toNat)
            case atStart => exact ⟨1, by omega, by omega, rfl, by rw [one_word]⟩
            case round =>
              obtain ⟨j, hj1, hjk, rfl, rfl⟩ := hrel
              by_cases hj : j < 1
              · exact absurd hj (by omega)
              · obtain rfl : j = 1 := by omega
                have HE := Lib.hid (show Lib.join (x.wl.take 1) [32] = x.line by rw [Ev.line, HTR2.out])
                go_wp2
                go_ret
                exact ⟨by rw [HE.out]; rfl, hch.out⟩
          · obtain ⟨m, rfl⟩ : ∃ m, k = m + 1 := ⟨k - 1, by omega⟩
            have c1 := HCW.out m (by omega)
            have c0 := HCW.out 0 (by omega)
            have hw0 : x.wl.getD 0 [] = Lib.itoa x.n0 := rfl
            rw [hw0] at c0
            clear hw0
            have e1 : ((m + 1 : Nat) : Int) = (m : Int) + 1 := by omega
            rw [e1]
            have hm8 : (m : Int) < 8 := by omega
            have hm0 : (1 : Int) < (m : Int) + 1 := by omega
            obtain ⟨a, ha⟩ : ∃ a, x.wl.getD m [] = a := ⟨_, rfl⟩
            rw [ha] at c1
            have hn := none_wl m
            by_cases h5 : m < 5
            · rw [if_pos h5] at hn
              have h5i : (m : Int) + 1 ≤ 5 := by omega
              by_cases hs : a = [48]
              · subst hs
                have HTR2 := Lib.hid (show trimW x.wl Ev.none.wl 8 = trimW x.wl Ev.none.wl m by rw [HTR.out, trimW, if_pos ⟨by omega, ha.trans hn.symm⟩])
                have hq : ((strA [48]).toList == [48]) = true := by rw [ByteArray.toList_eq]; rfl
                clear ha hn
                go_wp2_with fail
                go_round
                case rel => exact ⟨m, by omega, by omega, rfl, HTR2.out⟩
                case measure => simp [intOf]
              · have HTR2 := Lib.hid (show trimW x.wl Ev.none.wl 8 = m + 1 by rw [HTR.out, trimW, if_neg (fun h => hs (ha.symm.trans (h.2.trans hn)))])
                have hq : ((strA a).toList == [48]) = false := by rw [beq_eq_false_iff_ne, ByteArray.toList_eq, strA_toList]; exact hs
                clear ha hn
                go_wp2_with fail
                go_loop [5, 6] (fun s i => ∃ j : Nat, 1 ≤ j ∧ j ≤ m + 1 ∧ i = .int .i64 j ∧ s = .string (strA (Lib.join (x.wl.take j) [32]))) (fun _ i => m + 1 - (intOf i).toNat)
                case atStart => exact ⟨1, by omega, by omega, rfl, by rw [one_word]⟩
                case round =>
                  obtain ⟨j, hj1, hjk, rfl, rfl⟩ := hrel
                  by_cases hj : j < m + 1
                  · have cj := HCW.out j (by omega)
                    obtain ⟨b, hb⟩ : ∃ b, x.wl.getD j [] = b := ⟨_, rfl⟩
                    rw [hb] at cj
                    have hj8 : (j : Int) < 8 := by omega
                    have hjn : (j : Int) < (m : Int) + 1 := by omega
                    have hl1 := pre_le hx j
                    have hl2 := word_le hx j
                    rw [hb] at hl2
                    have hs1 : (strA (Lib.join (x.wl.take j) [32])).size ≤ 25165848 := by rw [strA_size]; exact hl1
                    have hs2 : (strA b).size ≤ 3145730 := by rw [strA_size]; exact hl2
                    have hs3 : (strA (Lib.join (x.wl.take j) [32]) ++ (⟨#[32]⟩ : ByteArray)).size ≤ 25165849 := by rw [show strA (Lib.join (x.wl.take j) [32]) ++ (⟨#[32]⟩ : ByteArray) = strA (Lib.join (x.wl.take j) [32] ++ [32]) from strA_app _ [32], strA_size, List.length_append]; simp; omega
                    have HE := Lib.hid (show strA (Lib.join (x.wl.take j) [32]) ++ (⟨#[32]⟩ : ByteArray) ++ strA b = strA (Lib.join (x.wl.take (j + 1)) [32]) by rw [show strA (Lib.join (x.wl.take j) [32]) ++ (⟨#[32]⟩ : ByteArray) = strA (Lib.join (x.wl.take j) [32] ++ [32]) from strA_app _ [32], strA_app, join_snoc x.wl j b hj1 (word_at x j b (by omega) hb)])
                    clear hb
                    go_wp2_with fail
                    go_round
                    case rel => exact ⟨j + 1, by omega, by omega, by go_num, by rw [HE.out]⟩
                    case measure => simp [intOf]; omega
                  · obtain rfl : j = m + 1 := by omega
                    have HE := Lib.hid (show Lib.join (x.wl.take (m + 1)) [32] = x.line by rw [Ev.line, HTR2.out])
                    go_wp2
                    go_ret
                    exact ⟨by rw [HE.out]; rfl, hch.out⟩
            · rw [if_neg h5, if_pos (by omega)] at hn
              have h5i : (5 : Int) < (m : Int) + 1 := by omega
              by_cases hs : a = [34, 34]
              · subst hs
                have HTR2 := Lib.hid (show trimW x.wl Ev.none.wl 8 = trimW x.wl Ev.none.wl m by rw [HTR.out, trimW, if_pos ⟨by omega, ha.trans hn.symm⟩])
                have hq : ((strA [34, 34]).toList == [34, 34]) = true := by rw [ByteArray.toList_eq]; rfl
                clear ha hn
                go_wp2_with fail
                go_round
                case rel => exact ⟨m, by omega, by omega, rfl, HTR2.out⟩
                case measure => simp [intOf]
              · have HTR2 := Lib.hid (show trimW x.wl Ev.none.wl 8 = m + 1 by rw [HTR.out, trimW, if_neg (fun h => hs (ha.symm.trans (h.2.trans hn)))])
                have hq : ((strA a).toList == [34, 34]) = false := by rw [beq_eq_false_iff_ne, ByteArray.toList_eq, strA_toList]; exact hs
                clear ha hn
                go_wp2_with fail
                go_loop [5, 6] (fun s i => ∃ j : Nat, 1 ≤ j ∧ j ≤ m + 1 ∧ i = .int .i64 j ∧ s = .string (strA (Lib.join (x.wl.take j) [32]))) (fun _ i => m + 1 - (intOf i).toNat)
                case atStart => exact ⟨1, by omega, by omega, rfl, by rw [one_word]⟩
                case round =>
                  obtain ⟨j, hj1, hjk, rfl, rfl⟩ := hrel
                  by_cases hj : j < m + 1
                  · have cj := HCW.out j (by omega)
                    obtain ⟨b, hb⟩ : ∃ b, x.wl.getD j [] = b := ⟨_, rfl⟩
                    rw [hb] at cj
                    have hj8 : (j : Int) < 8 := by omega
                    have hjn : (j : Int) < (m : Int) + 1 := by omega
                    have hl1 := pre_le hx j
                    have hl2 := word_le hx j
                    rw [hb] at hl2
                    have hs1 : (strA (Lib.join (x.wl.take j) [32])).size ≤ 25165848 := by rw [strA_size]; exact hl1
                    have hs2 : (strA b).size ≤ 3145730 := by rw [strA_size]; exact hl2
                    have hs3 : (strA (Lib.join (x.wl.take j) [32]) ++ (⟨#[32]⟩ : ByteArray)).size ≤ 25165849 := by rw [show strA (Lib.join (x.wl.take j) [32]) ++ (⟨#[32]⟩ : ByteArray) = strA (Lib.join (x.wl.take j) [32] ++ [32]) from strA_app _ [32], strA_size, List.length_append]; simp; omega
                    have HE := Lib.hid (show strA (Lib.join (x.wl.take j) [32]) ++ (⟨#[32]⟩ : ByteArray) ++ strA b = strA (Lib.join (x.wl.take (j + 1)) [32]) by rw [show strA (Lib.join (x.wl.take j) [32]) ++ (⟨#[32]⟩ : ByteArray) = strA (Lib.join (x.wl.take j) [32] ++ [32]) from strA_app _ [32], strA_app, join_snoc x.wl j b hj1 (word_at x j b (by omega) hb)])
                    clear hb
                    go_wp2_with fail
                    go_round
                    case rel => exact ⟨j + 1, by omega, by omega, by go_num, by rw [HE.out]⟩
                    case measure => simp [intOf]; omega
                  · obtain rfl : j = m + 1 := by omega
                    have HE := Lib.hid (show Lib.join (x.wl.take (m + 1)) [32] = x.line by rw [Ev.line, HTR2.out])
                    go_wp2
                    go_ret
                    exact ⟨by rw [HE.out]; rfl, hch.out⟩
      exact AllReadyH.nil
    exact AllReadyH.nil
  have H_7_1_1 : ∀ (W : World) (va : Value) (vb : Value), LB x A cap w W → R 3 #[true, true, true, true, true, true, true, true, true, true, true, true, true, true, true, true, true, true, true, true, true, true, true, true, true, false, false, false] ⟨#[.agg #[.int .i64 x.n0, .int .i64 x.n1, .int .i64 x.n2, .int .i64 x.n3, .int .i64 x.n4, .string x.path, .string x.name, .slice A x.data.length cap], .pointer (some ⟨w.heap.size, 0, none⟩), .string ⟨#[]⟩, undef, undef, undef, undef, .pointer (some ⟨w.heap.size, 0, none⟩), .int .i64 x.n0, .string (strA (Lib.itoa x.n0)), .pointer (some ⟨w.heap.size, 1, none⟩), .int .i64 x.n1, .string (strA (Lib.itoa x.n1)), .pointer (some ⟨w.heap.size, 2, none⟩), .int .i64 x.n2, .string (strA (Lib.itoa x.n2)), .pointer (some ⟨w.heap.size, 3, none⟩), .int .i64 x.n3, .string (strA (Lib.itoa x.n3)), .pointer (some ⟨w.heap.size, 4, none⟩), .int .i64 x.n4, .string (strA (Lib.itoa x.n4)), .pointer (some ⟨w.heap.size, 5, none⟩), .string x.path, va, .string (strA (quoteL x.path.data.toList)), .pointer (some ⟨w.heap.size, 6, none⟩), .string x.name, vb, .string (strA (quoteL x.name.data.toList)), .pointer (some ⟨w.heap.size, 7, none⟩), .slice A x.data.length cap, undef, undef, undef, undef, undef, undef, undef, undef, undef, undef, undef, undef, undef, undef, undef, undef, undef, undef, undef, undef, undef, undef, undef, undef, undef, undef, undef, undef, undef, undef, undef, undef, undef, undef, undef, undef, undef, undef, undef, undef, undef, undef, undef, undef, undef, undef, undef, undef], []⟩ W := by
    intro W va vb HL
    rw [hR]
    refine wpAnyH_ready (rs := [25]) (by kernel_rfl) (by simp) ?_
    refine AllReadyH.cons (i := 25) rfl (fun K hK => ?_) ?_
    · go_simp
      refine (refquote_any A cap x.data W (Hr.out.below HL.chg) hx.hd).mono ?_
      rintro e w2 ⟨rfl, hb2⟩
      have HL2 := HL.below hb2
      try go_simp
      try clear hHeld
      refine hK.out _ _ HL2.S (fun hHeld => ?_)
      clear hK K
      try simp only [List.getElem_toArray, List.getElem_cons_zero, List.getElem_cons_succ, Act.put, List.setIfInBounds_toArray, List.set_cons_zero, List.set_cons_succ]
      rw [← hR]
      exact R_of (lit := #[true, true, true, true, true, true, true, true, true, true, true, true, true, true, true, true, true, true, true, true, true, true, true, true, true, true, false, false]) (by kernel_rfl) (H_8_1_1 _ _ _ HL2)
    exact AllReadyH.nil
  have H_6_1_1 : ∀ (W : World) (va : Value) (pb cb : Nat), LB x A cap w W → Hid (RdB W (some ⟨pb, 0, none⟩) x.name.data.toList) → R 4 #[true, true, true, true, true, true, true, true, true, true, true, true, true, true, true, true, true, true, true, true, true, true, false, true, true, false, false, false] ⟨#[.agg #[.int .i64 x.n0, .int .i64 x.n1, .int .i64 x.n2, .int .i64 x.n3, .int .i64 x.n4, .string x.path, .string x.name, .slice A x.data.length cap], .pointer (some ⟨w.heap.size, 0, none⟩), .string ⟨#[]⟩, undef, undef, undef, undef, .pointer (some ⟨w.heap.size, 0, none⟩), .int .i64 x.n0, .string (strA (Lib.itoa x.n0)), .pointer (some ⟨w.heap.size, 1, none⟩), .int .i64 x.n1, .string (strA (Lib.itoa x.n1)), .pointer (some ⟨w.heap.size, 2, none⟩), .int .i64 x.n2, .string (strA (Lib.itoa x.n2)), .pointer (some ⟨w.heap.size, 3, none⟩), .int .i64 x.n3, .string (strA (Lib.itoa x.n3)), .pointer (some ⟨w.heap.size, 4, none⟩), .int .i64 x.n4, .string (strA (Lib.itoa x.n4)), .pointer (some ⟨w.heap.size, 5, none⟩), .string x.path, va, .string (strA (quoteL x.path.data.toList)), .pointer (some ⟨w.heap.size, 6, none⟩), .string x.name, .slice (some ⟨pb, 0, none⟩) x.name.size cb, undef, .pointer (some ⟨w.heap.size, 7, none⟩), .slice A x.data.length cap, undef, undef, undef, undef, undef, undef, undef, undef, undef, undef, undef, undef, undef, undef, undef, undef, undef, undef, undef, undef, undef, undef, undef, undef, undef, undef, undef, undef, undef, undef, undef, undef, undef, undef, undef, undef, undef, undef, undef, undef, undef, undef, undef, undef, undef, undef, undef, undef], []⟩ W := by
    intro W va pb cb HL RB
    rw [hR]
    refine wpAnyH_ready (rs := [22]) (by kernel_rfl) (by simp) ?_
    refine AllReadyH.cons (i := 22) rfl (fun K hK => ?_) ?_
    · go_simp
      refine (rquote_str _ _ x.name W RB.out hx.hn).mono ?_
      rintro e w2 ⟨rfl, hb2⟩
      have HL2 := HL.below hb2
      try go_simp
      try clear hHeld
      refine hK.out _ _ HL2.S (fun hHeld => ?_)
      clear hK K
      try simp only [List.getElem_toArray, List.getElem_cons_zero, List.getElem_cons_succ, Act.put, List.setIfInBounds_toArray, List.set_cons_zero, List.set_cons_succ]
      rw [← hR]
      exact R_of (lit := #[true, true, true, true, true, true, true, true, true, true, true, true, true, true, true, true, true, true, true, true, true, true, true, true, true, false, false, false]) (by kernel_rfl) (H_7_1_1 _ _ _ HL2)
    exact AllReadyH.nil
  have H_6_1_0 : ∀ (W : World) (va : Value), LB x A cap w W → R 5 #[true, true, true, true, true, true, true, true, true, true, true, true, true, true, true, true, true, true, true, true, true, false, false, true, true, false, false, false] ⟨#[.agg #[.int .i64 x.n0, .int .i64 x.n1, .int .i64 x.n2, .int .i64 x.n3, .int .i64 x.n4, .string x.path, .string x.name, .slice A x.data.length cap], .pointer (some ⟨w.heap.size, 0, none⟩), .string ⟨#[]⟩, undef, undef, undef, undef, .pointer (some ⟨w.heap.size, 0, none⟩), .int .i64 x.n0, .string (strA (Lib.itoa x.n0)), .pointer (some ⟨w.heap.size, 1, none⟩), .int .i64 x.n1, .string (strA (Lib.itoa x.n1)), .pointer (some ⟨w.heap.size, 2, none⟩), .int .i64 x.n2, .string (strA (Lib.itoa x.n2)), .pointer (some ⟨w.heap.size, 3, none⟩), .int .i64 x.n3, .string (strA (Lib.itoa x.n3)), .pointer (some ⟨w.heap.size, 4, none⟩), .int .i64 x.n4, .string (strA (Lib.itoa x.n4)), .pointer (some ⟨w.heap.size, 5, none⟩), .string x.path, va, .string (strA (quoteL x.path.data.toList)), .pointer (some ⟨w.heap.size, 6, none⟩), .string x.name, undef, undef, .pointer (some ⟨w.heap.size, 7, none⟩), .slice A x.data.length cap, undef, undef, undef, undef, undef, undef, undef, undef, undef, undef, undef, undef, undef, undef, undef, undef, undef, undef, undef, undef, undef, undef, undef, undef, undef, undef, undef, undef, undef, undef, undef, undef, undef, undef, undef, undef, undef, undef, undef, undef, undef, undef, undef, undef, undef, undef, undef, undef], []⟩ W := by
    intro W va HL
    rw [hR]
    refine wpAnyH_ready (rs := [21]) (by kernel_rfl) (by simp) ?_
    refine AllReadyH.cons (i := 21) rfl (fun K hK => ?_) ?_
    · go_simp
      have HL2 := HL.below (conv_below W x.name)
      try clear hHeld
      refine hK.out _ _ HL2.S (fun hHeld => ?_)
      clear hK K
      try simp only [List.getElem_toArray, List.getElem_cons_zero, List.getElem_cons_succ, Act.put, List.setIfInBounds_toArray, List.set_cons_zero, List.set_cons_succ]
      rw [← hR]
      exact R_of (lit := #[true, true, true, true, true, true, true, true, true, true, true, true, true, true, true, true, true, true, true, true, true, true, false, true, true, false, false, false]) (by kernel_rfl) (H_6_1_1 _ _ W.heap.size _ HL2 (Lib.hid (conv_rd W x.name)))
    exact AllReadyH.nil
  have H_5_1_1 : ∀ (W : World) (pa ca : Nat) (pb cb : Nat), LB x A cap w W → Hid (RdB W (some ⟨pa, 0, none⟩) x.path.data.toList) → Hid (RdB W (some ⟨pb, 0, none⟩) x.name.data.toList) → R 5 #[true, true, true, true, true, true, true, true, true, true, true, true, true, true, true, true, true, true, false, true, true, true, false, true, true, false, false, false] ⟨#[.agg #[.int .i64 x.n0, .int .i64 x.n1, .int .i64 x.n2, .int .i64 x.n3, .int .i64 x.n4, .string x.path, .string x.name, .slice A x.data.length cap], .pointer (some ⟨w.heap.size, 0, none⟩), .string ⟨#[]⟩, undef, undef, undef, undef, .pointer (some ⟨w.heap.size, 0, none⟩), .int .i64 x.n0, .string (strA (Lib.itoa x.n0)), .pointer (some ⟨w.heap.size, 1, none⟩), .int .i64 x.n1, .string (strA (Lib.itoa x.n1)), .pointer (some ⟨w.heap.size, 2, none⟩), .int .i64 x.n2, .string (strA (Lib.itoa x.n2)), .pointer (some ⟨w.heap.size, 3, none⟩), .int .i64 x.n3, .string (strA (Lib.itoa x.n3)), .pointer (some ⟨w.heap.size, 4, none⟩), .int .i64 x.n4, .string (strA (Lib.itoa x.n4)), .pointer (some ⟨w.heap.size, 5, none⟩), .string x.path, .slice (some ⟨pa, 0, none⟩) x.path.size ca, undef, .pointer (some ⟨w.heap.size, 6, none⟩), .string x.name, .slice (some ⟨pb, 0, none⟩) x.name.size cb, undef, .pointer (some ⟨w.heap.size, 7, none⟩), .slice A x.data.length cap, undef, undef, undef, undef, undef, undef, undef, undef, undef, undef, undef, undef, undef, undef, undef, undef, undef, undef, undef, undef, undef, undef, undef, undef, undef, undef, undef, undef, undef, undef, undef, undef, undef, undef, undef, undef, undef, undef, undef, undef, undef, undef, undef, undef, undef, undef, undef, undef], []⟩ W := by
    intro W pa ca pb cb HL RA RB
    rw [hR]
    refine wpAnyH_ready (rs := [18]) (by kernel_rfl) (by simp) ?_
    refine AllReadyH.cons (i := 18) rfl (fun K hK => ?_) ?_
    · go_simp
      refine (rquote_str _ _ x.path W RA.out hx.hp).mono ?_
      rintro e w2 ⟨rfl, hb2⟩
      have HL2 := HL.below hb2
      try go_simp
      try clear hHeld
      refine hK.out _ _ HL2.S (fun hHeld => ?_)
      clear hK K
      try simp only [List.getElem_toArray, List.getElem_cons_zero, List.getElem_cons_succ, Act.put, List.setIfInBounds_toArray, List.set_cons_zero, List.set_cons_succ]
      rw [← hR]
      exact R_of (lit := #[true, true, true, true, true, true, true, true, true, true, true, true, true, true, true, true, true, true, true, true, true, true, false, true, true, false, false, false]) (by kernel_rfl) (H_6_1_1 _ _ pb cb HL2 (Lib.hid (RB.out.below hb2)))
    exact AllReadyH.nil
  have H_5_1_0 : ∀ (W : World) (pa ca : Nat), LB x A cap w W → Hid (RdB W (some ⟨pa, 0, none⟩) x.path.data.toList) → R 6 #[true, true, true, true, true, true, true, true, true, true, true, true, true, true, true, true, true, true, false, true, true, false, false, true, true, false, false, false] ⟨#[.agg #[.int .i64 x.n0, .int .i64 x.n1, .int .i64 x.n2, .int .i64 x.n3, .int .i64 x.n4, .string x.path, .string x.name, .slice A x.data.length cap], .pointer (some ⟨w.heap.size, 0, none⟩), .string ⟨#[]⟩, undef, undef, undef, undef, .pointer (some ⟨w.heap.size, 0, none⟩), .int .i64 x.n0, .string (strA (Lib.itoa x.n0)), .pointer (some ⟨w.heap.size, 1, none⟩), .int .i64 x.n1, .string (strA (Lib.itoa x.n1)), .pointer (some ⟨w.heap.size, 2, none⟩), .int .i64 x.n2, .string (strA (Lib.itoa x.n2)), .pointer (some ⟨w.heap.size, 3, none⟩), .int .i64 x.n3, .string (strA (Lib.itoa x.n3)), .pointer (some ⟨w.heap.size, 4, none⟩), .int .i64 x.n4, .string (strA (Lib.itoa x.n4)), .pointer (some ⟨w.heap.size, 5, none⟩), .string x.path, .slice (some ⟨pa, 0, none⟩) x.path.size ca, undef, .pointer (some ⟨w.heap.size, 6, none⟩), .string x.name, undef, undef, .pointer (some ⟨w.heap.size, 7, none⟩), .slice A x.data.length cap, undef, undef, undef, undef, undef, undef, undef, undef, undef, undef, undef, undef, undef, undef, undef, undef, undef, undef, undef, undef, undef, undef, undef, undef, undef, undef, undef, undef, undef, undef, undef, undef, undef, undef, undef, undef, undef, undef, undef, undef, undef, undef, undef, undef, undef, undef, undef, undef], []⟩ W := by
    intro W pa ca HL RA
    rw [hR]
    refine wpAnyH_ready (rs := [18, 21]) (by kernel_rfl) (by simp) ?_
    refine AllReadyH.cons (i := 18) rfl (fun K hK => ?_) ?_
    · go_simp
      refine (rquote_str _ _ x.path W RA.out hx.hp).mono ?_
      rintro e w2 ⟨rfl, hb2⟩
      have HL2 := HL.below hb2
      try go_simp
      try clear hHeld
      refine hK.out _ _ HL2.S (fun hHeld => ?_)
      clear hK K
      try simp only [List.getElem_toArray, List.getElem_cons_zero, List.getElem_cons_succ, Act.put, List.setIfInBounds_toArray, List.set_cons_zero, List.set_cons_succ]
      rw [← hR]
      exact R_of (lit := #[true, true, true, true, true, true, true, true, true, true, true, true, true, true, true, true, true, true, true, true, true, false, false, true, true, false, false, false]) (by kernel_rfl) (H_6_1_0 _ _ HL2)
    refine AllReadyH.cons (i := 21) rfl (fun K hK => ?_) ?_
    · go_simp
      have HL2 := HL.below (conv_below W x.name)
      try clear hHeld
      refine hK.out _ _ HL2.S (fun hHeld => ?_)
      clear hK K
      try simp only [List.getElem_toArray, List.getElem_cons_zero, List.getElem_cons_succ, Act.put, List.setIfInBounds_toArray, List.set_cons_zero, List.set_cons_succ]
      rw [← hR]
      exact R_of (lit := #[true, true, true, true, true, true, true, true, true, true, true, true, true, true, true, true, true, true, false, true, true, true, false, true, true, false, false, false]) (by kernel_rfl) (H_5_1_1 _ pa ca W.heap.size _ HL2 (Lib.hid (RA.out.below (conv_below W x.name))) (Lib.hid (conv_rd W x.name)))
    exact AllReadyH.nil
  have H_5_0_1 : ∀ (W : World) (pb cb : Nat), LB x A cap w W → Hid (RdB W (some ⟨pb, 0, none⟩) x.name.data.toList) → R 6 #[true, true, true, true, true, true, true, true, true, true, true, true, true, true, true, true, true, false, false, true, true, true, false, true, true, false, false, false] ⟨#[.agg #[.int .i64 x.n0, .int .i64 x.n1, .int .i64 x.n2, .int .i64 x.n3, .int .i64 x.n4, .string x.path, .string x.name, .slice A x.data.length cap], .pointer (some ⟨w.heap.size, 0, none⟩), .string ⟨#[]⟩, undef, undef, undef, undef, .pointer (some ⟨w.heap.size, 0, none⟩), .int .i64 x.n0, .string (strA (Lib.itoa x.n0)), .pointer (some ⟨w.heap.size, 1, none⟩), .int .i64 x.n1, .string (strA (Lib.itoa x.n1)), .pointer (some ⟨w.heap.size, 2, none⟩), .int .i64 x.n2, .string (strA (Lib.itoa x.n2)), .pointer (some ⟨w.heap.size, 3, none⟩), .int .i64 x.n3, .string (strA (Lib.itoa x.n3)), .pointer (some ⟨w.heap.size, 4, none⟩), .int .i64 x.n4, .string (strA (Lib.itoa x.n4)), .pointer (some ⟨w.heap.size, 5, none⟩), .string x.path, undef, undef, .pointer (some ⟨w.heap.size, 6, none⟩), .string x.name, .slice (some ⟨pb, 0, none⟩) x.name.size cb, undef, .pointer (some ⟨w.heap.size, 7, none⟩), .slice A x.data.length cap, undef, undef, undef, undef, undef, undef, undef, undef, undef, undef, undef, undef, undef, undef, undef, undef, undef, undef, undef, undef, undef, undef, undef, undef, undef, undef, undef, undef, undef, undef, undef, undef, undef, undef, undef, undef, undef, undef, undef, undef, undef, undef, undef, undef, undef, undef, undef, undef], []⟩ W := by
    intro W pb cb HL RB
    rw [hR]
    refine wpAnyH_ready (rs := [17]) (by kernel_rfl) (by simp) ?_
    refine AllReadyH.cons (i := 17) rfl (fun K hK => ?_) ?_
    · go_simp
      have HL2 := HL.below (conv_below W x.path)
      try clear hHeld
      refine hK.out _ _ HL2.S (fun hHeld => ?_)
      clear hK K
      try simp only [List.getElem_toArray, List.getElem_cons_zero, List.getElem_cons_succ, Act.put, List.setIfInBounds_toArray, List.set_cons_zero, List.set_cons_succ]
      rw [← hR]
      exact R_of (lit := #[true, true, true, true, true, true, true, true, true, true, true, true, true, true, true, true, true, true, false, true, true, true, false, true, true, false, false, false]) (by kernel_rfl) (H_5_1_1 _ W.heap.size _ pb cb HL2 (Lib.hid (conv_rd W x.path)) (Lib.hid (RB.out.below (conv_below W x.path))))
    exact AllReadyH.nil
  have H_5_0_0 : ∀ (W : World), LB x A cap w W → R 7 #[true, true, true, true, true, true, true, true, true, true, true, true, true, true, true, true, true, false, false, true, true, false, false, true, true, false, false, false] ⟨#[.agg #[.int .i64 x.n0, .int .i64 x.n1, .int .i64 x.n2, .int .i64 x.n3, .int .i64 x.n4, .string x.path, .string x.name, .slice A x.data.length cap], .pointer (some ⟨w.heap.size, 0, none⟩), .string ⟨#[]⟩, undef, undef, undef, undef, .pointer (some ⟨w.heap.size, 0, none⟩), .int .i64 x.n0, .string (strA (Lib.itoa x.n0)), .pointer (some ⟨w.heap.size, 1, none⟩), .int .i64 x.n1, .string (strA (Lib.itoa x.n1)), .pointer (some ⟨w.heap.size, 2, none⟩), .int .i64 x.n2, .string (strA (Lib.itoa x.n2)), .pointer (some ⟨w.heap.size, 3, none⟩), .int .i64 x.n3, .string (strA (Lib.itoa x.n3)), .pointer (some ⟨w.heap.size, 4, none⟩), .int .i64 x.n4, .string (strA (Lib.itoa x.n4)), .pointer (some ⟨w.heap.size, 5, none⟩), .string x.path, undef, undef, .pointer (some ⟨w.heap.size, 6, none⟩), .string x.name, undef, undef, .pointer (some ⟨w.heap.size, 7, none⟩), .slice A x.data.length cap, undef, undef, undef, undef, undef, undef, undef, undef, undef, undef, undef, undef, undef, undef, undef, undef, undef, undef, undef, undef, undef, undef, undef, undef, undef, undef, undef, undef, undef, undef, undef, undef, undef, undef, undef, undef, undef, undef, undef, undef, undef, undef, undef, undef, undef, undef, undef, undef], []⟩ W := by
    intro W HL
    rw [hR]
    refine wpAnyH_ready (rs := [17, 21]) (by kernel_rfl) (by simp) ?_
    refine AllReadyH.cons (i := 17) rfl (fun K hK => ?_) ?_
    · go_simp
      have HL2 := HL.below (conv_below W x.path)
      try clear hHeld
      refine hK.out _ _ HL2.S (fun hHeld => ?_)
      clear hK K
      try simp only [List.getElem_toArray, List.getElem_cons_zero, List.getElem_cons_succ, Act.put, List.setIfInBounds_toArray, List.set_cons_zero, List.set_cons_succ]
      rw [← hR]
      exact R_of (lit := #[true, true, true, true, true, true, true, true, true, true, true, true, true, true, true, true, true, true, false, true, true, false, false, true, true, false, false, false]) (by kernel_rfl) (H_5_1_0 _ W.heap.size _ HL2 (Lib.hid (conv_rd W x.path)))
    refine AllReadyH.cons (i := 21) rfl (fun K hK => ?_) ?_
    · go_simp
      have HL2 := HL.below (conv_below W x.name)
      try clear hHeld
      refine hK.out _ _ HL2.S (fun hHeld => ?_)
      clear hK K
      try simp only [List.getElem_toArray, List.getElem_cons_zero, List.getElem_cons_succ, Act.put, List.setIfInBounds_toArray, List.set_cons_zero, List.set_cons_succ]
      rw [← hR]
      exact R_of (lit := #[true, true, true, true, true, true, true, true, true, true, true, true, true, true, true, true, true, false, false, true, true, true, false, true, true, false, false, false]) (by kernel_rfl) (H_5_0_1 _ W.heap.size _ HL2 (Lib.hid (conv_rd W x.name)))
    exact AllReadyH.nil
  have H_4_1_1 : ∀ (W : World) (pa ca : Nat) (pb cb : Nat), LB x A cap w W → Hid (RdB W (some ⟨pa, 0, none⟩) x.path.data.toList) → Hid (RdB W (some ⟨pb, 0, none⟩) x.name.data.toList) → R 6 #[true, true, true, true, true, true, true, true, true, true, true, true, true, true, false, true, true, true, false, true, true, true, false, true, true, false, false, false] ⟨#[.agg #[.int .i64 x.n0, .int .i64 x.n1, .int .i64 x.n2, .int .i64 x.n3, .int .i64 x.n4, .string x.path, .string x.name, .slice A x.data.length cap], .pointer (some ⟨w.heap.size, 0, none⟩), .string ⟨#[]⟩, undef, undef, undef, undef, .pointer (some ⟨w.heap.size, 0, none⟩), .int .i64 x.n0, .string (strA (Lib.itoa x.n0)), .pointer (some ⟨w.heap.size, 1, none⟩), .int .i64 x.n1, .string (strA (Lib.itoa x.n1)), .pointer (some ⟨w.heap.size, 2, none⟩), .int .i64 x.n2, .string (strA (Lib.itoa x.n2)), .pointer (some ⟨w.heap.size, 3, none⟩), .int .i64 x.n3, .string (strA (Lib.itoa x.n3)), .pointer (some ⟨w.heap.size, 4, none⟩), .int .i64 x.n4, undef, .pointer (some ⟨w.heap.size, 5, none⟩), .string x.path, .slice (some ⟨pa, 0, none⟩) x.path.size ca, undef, .pointer (some ⟨w.heap.size, 6, none⟩), .string x.name, .slice (some ⟨pb, 0, none⟩) x.name.size cb, undef, .pointer (some ⟨w.heap.size, 7, none⟩), .slice A x.data.length cap, undef, undef, undef, undef, undef, undef, undef, undef, undef, undef, undef, undef, undef, undef, undef, undef, undef, undef, undef, undef, undef, undef, undef, undef, undef, undef, undef, undef, undef, undef, undef, undef, undef, undef, undef, undef, undef, undef, undef, undef, undef, undef, undef, undef, undef, undef, undef, undef], []⟩ W := by
    intro W pa ca pb cb HL RA RB
    rw [hR]
    refine wpAnyH_ready (rs := [14]) (by kernel_rfl) (by simp) ?_
    refine AllReadyH.cons (i := 14) rfl (fun K hK => ?_) ?_
    · go_simp
      refine (itoa_any _ W (ht.below HL.chg hB) hx.h4.1 hx.h4.2).mono ?_
      rintro e w2 ⟨rfl, hb2⟩
      have HL2 := HL.below hb2
      try go_simp
      try clear hHeld
      refine hK.out _ _ HL2.S (fun hHeld => ?_)
      clear hK K
      try simp only [List.getElem_toArray, List.getElem_cons_zero, List.getElem_cons_succ, Act.put, List.setIfInBounds_toArray, List.set_cons_zero, List.set_cons_succ]
      rw [← hR]
      exact R_of (lit := #[true, true, true, true, true, true, true, true, true, true, true, true, true, true, true, true, true, true, false, true, true, true, false, true, true, false, false, false]) (by kernel_rfl) (H_5_1_1 _ pa ca pb cb HL2 (Lib.hid (RA.out.below hb2)) (Lib.hid (RB.out.below hb2)))
    exact AllReadyH.nil
  have H_4_1_0 : ∀ (W : World) (pa ca : Nat), LB x A cap w W → Hid (RdB W (some ⟨pa, 0, none⟩) x.path.data.toList) → R 7 #[true, true, true, true, true, true, true, true, true, true, true, true, true, true, false, true, true, true, false, true, true, false, false, true, true, false, false, false] ⟨#[.agg #[.int .i64 x.n0, .int .i64 x.n1, .int .i64 x.n2, .int .i64 x.n3, .int .i64 x.n4, .string x.path, .string x.name, .slice A x.data.length cap], .pointer (some ⟨w.heap.size, 0, none⟩), .string ⟨#[]⟩, undef, undef, undef, undef, .pointer (some ⟨w.heap.size, 0, none⟩), .int .i64 x.n0, .string (strA (Lib.itoa x.n0)), .pointer (some ⟨w.heap.size, 1, none⟩), .int .i64 x.n1, .string (strA (Lib.itoa x.n1)), .pointer (some ⟨w.heap.size, 2, none⟩), .int .i64 x.n2, .string (strA (Lib.itoa x.n2)), .pointer (some ⟨w.heap.size, 3, none⟩), .int .i64 x.n3, .string (strA (Lib.itoa x.n3)), .pointer (some ⟨w.heap.size, 4, none⟩), .int .i64 x.n4, undef, .pointer (some ⟨w.heap.size, 5, none⟩), .string x.path, .slice (some ⟨pa, 0, none⟩) x.path.size ca, undef, .pointer (some ⟨w.heap.size, 6, none⟩), .string x.name, undef, undef, .pointer (some ⟨w.heap.size, 7, none⟩), .slice A x.data.length cap, undef, undef, undef, undef, undef, undef, undef, undef, undef, undef, undef, undef, undef, undef, undef, undef, undef, undef, undef, undef, undef, undef, undef, undef, undef, undef, undef, undef, undef, undef, undef, undef, undef, undef, undef, undef, undef, undef, undef, undef, undef, undef, undef, undef, undef, undef, undef, undef], []⟩ W := by
    intro W pa ca HL RA
    rw [hR]
    refine wpAnyH_ready (rs := [14, 21]) (by kernel_rfl) (by simp) ?_
    refine AllReadyH.cons (i := 14) rfl (fun K hK => ?_) ?_
    · go_simp
      refine (itoa_any _ W (ht.below HL.chg hB) hx.h4.1 hx.h4.2).mono ?_
      rintro e w2 ⟨rfl, hb2⟩
      have HL2 := HL.below hb2
      try go_simp
      try clear hHeld
      refine hK.out _ _ HL2.S (fun hHeld => ?_)
      clear hK K
      try simp only [List.getElem_toArray, List.getElem_cons_zero, List.getElem_cons_succ, Act.put, List.setIfInBounds_toArray, List.set_cons_zero, List.set_cons_succ]
      rw [← hR]
      exact R_of (lit := #[true, true, true, true, true, true, true, true, true, true, true, true, true, true, true, true, true, true, false, true, true, false, false, true, true, false, false, false]) (by kernel_rfl) (H_5_1_0 _ pa ca HL2 (Lib.hid (RA.out.below hb2)))
    refine AllReadyH.cons (i := 21) rfl (fun K hK => ?_) ?_
    · go_simp
      have HL2 := HL.below (conv_below W x.name)
      try clear hHeld
      refine hK.out _ _ HL2.S (fun hHeld => ?_)
      clear hK K
      try simp only [List.getElem_toArray, List.getElem_cons_zero, List.getElem_cons_succ, Act.put, List.setIfInBounds_toArray, List.set_cons_zero, List.set_cons_succ]
      rw [← hR]
      exact R_of (lit := #[true, true, true, true, true, true, true, true, true, true, true, true, true, true, false, true, true, true, false, true, true, true, false, true, true, false, false, false]) (by kernel_rfl) (H_4_1_1 _ pa ca W.heap.size _ HL2 (Lib.hid (RA.out.below (conv_below W x.name))) (Lib.hid (conv_rd W x.name)))
    exact AllReadyH.nil
  have H_4_0_1 : ∀ (W : World) (pb cb : Nat), LB x A cap w W → Hid (RdB W (some ⟨pb, 0, none⟩) x.name.data.toList) → R 7 #[true, true, true, true, true, true, true, true, true, true, true, true, true, true, false, true, true, false, false, true, true, true, false, true, true, false, false, false] ⟨#[.agg #[.int .i64 x.n0, .int .i64 x.n1, .int .i64 x.n2, .int .i64 x.n3, .int .i64 x.n4, .string x.path, .string x.name, .slice A x.data.length cap], .pointer (some ⟨w.heap.size, 0, none⟩), .string ⟨#[]⟩, undef, undef, undef, undef, .pointer (some ⟨w.heap.size, 0, none⟩), .int .i64 x.n0, .string (strA (Lib.itoa x.n0)), .pointer (some ⟨w.heap.size, 1, none⟩), .int .i64 x.n1, .string (strA (Lib.itoa x.n1)), .pointer (some ⟨w.heap.size, 2, none⟩), .int .i64 x.n2, .string (strA (Lib.itoa x.n2)), .pointer (some ⟨w.heap.size, 3, none⟩), .int .i64 x.n3, .string (strA (Lib.itoa x.n3)), .pointer (some ⟨w.heap.size, 4, none⟩), .int .i64 x.n4, undef, .pointer (some ⟨w.heap.size, 5, none⟩), .string x.path, undef, undef, .pointer (some ⟨w.heap.size, 6, none⟩), .string x.name, .slice (some ⟨pb, 0, none⟩) x.name.size cb, undef, .pointer (some ⟨w.heap.size, 7, none⟩), .slice A x.data.length cap, undef, undef, undef, undef, undef, undef, undef, undef, undef, undef, undef, undef, undef, undef, undef, undef, undef, undef, undef, undef, undef, undef, undef, undef, undef, undef, undef, undef, undef, undef, undef, undef, undef, undef, undef, undef, undef, undef, undef, undef, undef, undef, undef, undef, undef, undef, undef, undef], []⟩ W := by
    intro W pb cb HL RB
    rw [hR]
    refine wpAnyH_ready (rs := [14, 17]) (by kernel_rfl) (by simp) ?_
    refine AllReadyH.cons (i := 14) rfl (fun K hK => ?_) ?_
    · go_simp
      refine (itoa_any _ W (ht.below HL.chg hB) hx.h4.1 hx.h4.2).mono ?_
      rintro e w2 ⟨rfl, hb2⟩
      have HL2 := HL.below hb2
      try go_simp
      try clear hHeld
      refine hK.out _ _ HL2.S (fun hHeld => ?_)
      clear hK K
      try simp only [List.getElem_toArray, List.getElem_cons_zero, List.getElem_cons_succ, Act.put, List.setIfInBounds_toArray, List.set_cons_zero, List.set_cons_succ]
      rw [← hR]
      exact R_of (lit := #[true, true, true, true, true, true, true, true, true, true, true, true, true, true, true, true, true, false, false, true, true, true, false, true, true, false, false, false]) (by kernel_rfl) (H_5_0_1 _ pb cb HL2 (Lib.hid (RB.out.below hb2)))
    refine AllReadyH.cons (i := 17) rfl (fun K hK => ?_) ?_
    · go_simp
      have HL2 := HL.below (conv_below W x.path)
      try clear hHeld
      refine hK.out _ _ HL2.S (fun hHeld => ?_)
      clear hK K
      try simp only [List.getElem_toArray, List.getElem_cons_zero, List.getElem_cons_succ, Act.put, List.setIfInBounds_toArray, List.set_cons_zero, List.set_cons_succ]
      rw [← hR]
      exact R_of (lit := #[true, true, true, true, true, true, true, true, true, true, true, true, true, true, false, true, true, true, false, true, true, true, false, true, true, false, false, false]) (by kernel_rfl) (H_4_1_1 _ W.heap.size _ pb cb HL2 (Lib.hid (conv_rd W x.path)) (Lib.hid (RB.out.below (conv_below W x.path))))
    exact AllReadyH.nil
  have H_4_0_0 : ∀ (W : World), LB x A cap w W → R 8 #[true, true, true, true, true, true, true, true, true, true, true, true, true, true, false, true, true, false, false, true, true, false, false, true, true, false, false, false] ⟨#[.agg #[.int .i64 x.n0, .int .i64 x.n1, .int .i64 x.n2, .int .i64 x.n3, .int .i64 x.n4, .string x.path, .string x.name, .slice A x.data.length cap], .pointer (some ⟨w.heap.size, 0, none⟩), .string ⟨#[]⟩, undef, undef, undef, undef, .pointer (some ⟨w.heap.size, 0, none⟩), .int .i64 x.n0, .string (strA (Lib.itoa x.n0)), .pointer (some ⟨w.heap.size, 1, none⟩), .int .i64 x.n1, .string (strA (Lib.itoa x.n1)), .pointer (some ⟨w.heap.size, 2, none⟩), .int .i64 x.n2, .string (strA (Lib.itoa x.n2)), .pointer (some ⟨w.heap.size, 3, none⟩), .int .i64 x.n3, .string (strA (Lib.itoa x.n3)), .pointer (some ⟨w.heap.size, 4, none⟩), .int .i64 x.n4, undef, .pointer (some ⟨w.heap.size, 5, none⟩), .string x.path, undef, undef, .pointer (some ⟨w.heap.size, 6, none⟩), .string x.name, undef, undef, .pointer (some ⟨w.heap.size, 7, none⟩), .slice A x.data.length cap, undef, undef, undef, undef, undef, undef, undef, undef, undef, undef, undef, undef, undef, undef, undef, undef, undef, undef, undef, undef, undef, undef, undef, undef, undef, undef, undef, undef, undef, undef, undef, undef, undef, undef, undef, undef, undef, undef, undef, undef, undef, undef, undef, undef, undef, undef, undef, undef], []⟩ W := by
    intro W HL
    rw [hR]
    refine wpAnyH_ready (rs := [14, 17, 21]) (by kernel_rfl) (by simp) ?_
    refine AllReadyH.cons (i := 14) rfl (fun K hK => ?_) ?_
    · go_simp
      refine (itoa_any _ W (ht.below HL.chg hB) hx.h4.1 hx.h4.2).mono ?_
      rintro e w2 ⟨rfl, hb2⟩
      have HL2 := HL.below hb2
      try go_simp
      try clear hHeld
      refine hK.out _ _ HL2.S (fun hHeld => ?_)
      clear hK K
      try simp only [List.getElem_toArray, List.getElem_cons_zero, List.getElem_cons_succ, Act.put, List.setIfInBounds_toArray, List.set_cons_zero, List.set_cons_succ]
      rw [← hR]
      exact R_of (lit := #[true, true, true, true, true, true, true, true, true, true, true, true, true, true, true, true, true, false, false, true, true, false, false, true, true, false, false, false]) (by kernel_rfl) (H_5_0_0 _ HL2)
    refine AllReadyH.cons (i := 17) rfl (fun K hK => ?_) ?_
    · go_simp
      have HL2 := HL.below (conv_below W x.path)
      try clear hHeld
      refine hK.out _ _ HL2.S (fun hHeld => ?_)
      clear hK K
      try simp only [List.getElem_toArray, List.getElem_cons_zero, List.getElem_cons_succ, Act.put, List.setIfInBounds_toArray, List.set_cons_zero, List.set_cons_succ]
      rw [← hR]
      exact R_of (lit := #[true, true, true, true, true, true, true, true, true, true, true, true, true, true, false, true, true, true, false, true, true, false, false, true, true, false, false, false]) (by kernel_rfl) (H_4_1_0 _ W.heap.size _ HL2 (Lib.hid (conv_rd W x.path)))
    refine AllReadyH.cons (i := 21) rfl (fun K hK => ?_) ?_
    · go_simp
      have HL2 := HL.below (conv_below W x.name)
      try clear hHeld
      refine hK.out _ _ HL2.S (fun hHeld => ?_)
      clear hK K
      try simp only [List.getElem_toArray, List.getElem_cons_zero, List.getElem_cons_succ, Act.put, List.setIfInBounds_toArray, List.set_cons_zero, List.set_cons_succ]
      rw [← hR]
      exact R_of (lit := #[true, true, true, true, true, true, true, true, true, true, true, true, true, true, false, true, true, false, false, true, true, true, false, true, true, false, false, false]) (by kernel_rfl) (H_4_0_1 _ W.heap.size _ HL2 (Lib.hid (conv_rd W x.name)))
    exact AllReadyH.nil
  have H_3_1_1 : ∀ (W : World) (pa ca : Nat) (pb cb : Nat), LB x A cap w W → Hid (RdB W (some ⟨pa, 0, none⟩) x.path.data.toList) → Hid (RdB W (some ⟨pb, 0, none⟩) x.name.data.toList) → R 7 #[true, true, true, true, true, true, true, true, true, true, true, false, true, true, false, true, true, true, false, true, true, true, false, true, true, false, false, false] ⟨#[.agg #[.int .i64 x.n0, .int .i64 x.n1, .int .i64 x.n2, .int .i64 x.n3, .int .i64 x.n4, .string x.path, .string x.name, .slice A x.data.length cap], .pointer (some ⟨w.heap.size, 0, none⟩), .string ⟨#[]⟩, undef, undef, undef, undef, .pointer (some ⟨w.heap.size, 0, none⟩), .int .i64 x.n0, .string (strA (Lib.itoa x.n0)), .pointer (some ⟨w.heap.size, 1, none⟩), .int .i64 x.n1, .string (strA (Lib.itoa x.n1)), .pointer (some ⟨w.heap.size, 2, none⟩), .int .i64 x.n2, .string (strA (Lib.itoa x.n2)), .pointer (some ⟨w.heap.size, 3, none⟩), .int .i64 x.n3, undef, .pointer (some ⟨w.heap.size, 4, none⟩), .int .i64 x.n4, undef, .pointer (some ⟨w.heap.size, 5, none⟩), .string x.path, .slice (some ⟨pa, 0, none⟩) x.path.size ca, undef, .pointer (some ⟨w.heap.size, 6, none⟩), .string x.name, .slice (some ⟨pb, 0, none⟩) x.name.size cb, undef, .pointer (some ⟨w.heap.size, 7, none⟩), .slice A x.data.length cap, undef, undef, undef, undef, undef, undef, undef, undef, undef, undef, undef, undef, undef, undef, undef, undef, undef, undef, undef, undef, undef, undef, undef, undef, undef, undef, undef, undef, undef, undef, undef, undef, undef, undef, undef, undef, undef, undef, undef, undef, undef, undef, undef, undef, undef, undef, undef, undef], []⟩ W := by
    intro W pa ca pb cb HL RA RB
    rw [hR]
    refine wpAnyH_ready (rs := [11]) (by kernel_rfl) (by simp) ?_
    refine AllReadyH.cons (i := 11) rfl (fun K hK => ?_) ?_
    · go_simp
      refine (itoa_any _ W (ht.below HL.chg hB) hx.h3.1 hx.h3.2).mono ?_
      rintro e w2 ⟨rfl, hb2⟩
      have HL2 := HL.below hb2
      try go_simp
      try clear hHeld
      refine hK.out _ _ HL2.S (fun hHeld => ?_)
      clear hK K
      try simp only [List.getElem_toArray, List.getElem_cons_zero, List.getElem_cons_succ, Act.put, List.setIfInBounds_toArray, List.set_cons_zero, List.set_cons_succ]
      rw [← hR]
      exact R_of (lit := #[true, true, true, true, true, true, true, true, true, true, true, true, true, true, false, true, true, true, false, true, true, true, false, true, true, false, false, false]) (by kernel_rfl) (H_4_1_1 _ pa ca pb cb HL2 (Lib.hid (RA.out.below hb2)) (Lib.hid (RB.out.below hb2)))
    exact AllReadyH.nil
  have H_3_1_0 : ∀ (W : World) (pa ca : Nat), LB x A cap w W → Hid (RdB W (some ⟨pa, 0, none⟩) x.path.data.toList) → R 8 #[true, true, true, true, true, true, true, true, true, true, true, false, true, true, false, true, true, true, false, true, true, false, false, true, true, false, false, false] ⟨#[.agg #[.int .i64 x.n0, .int .i64 x.n1, .int .i64 x.n2, .int .i64 x.n3, .int .i64 x.n4, .string x.path, .string x.name, .slice A x.data.length cap], .pointer (some ⟨w.heap.size, 0, none⟩), .string ⟨#[]⟩, undef, undef, undef, undef, .pointer (some ⟨w.heap.size, 0, none⟩), .int .i64 x.n0, .string (strA (Lib.itoa x.n0)), .pointer (some ⟨w.heap.size, 1, none⟩), .int .i64 x.n1, .string (strA (Lib.itoa x.n1)), .pointer (some ⟨w.heap.size, 2, none⟩), .int .i64 x.n2, .string (strA (Lib.itoa x.n2)), .pointer (some ⟨w.heap.size, 3, none⟩), .int .i64 x.n3, undef, .pointer (some ⟨w.heap.size, 4, none⟩), .int .i64 x.n4, undef, .pointer (some ⟨w.heap.size, 5, none⟩), .string x.path, .slice (some ⟨pa, 0, none⟩) x.path.size ca, undef, .pointer (some ⟨w.heap.size, 6, none⟩), .string x.name, undef, undef, .pointer (some ⟨w.heap.size, 7, none⟩), .slice A x.data.length cap, undef, undef, undef, undef, undef, undef, undef, undef, undef, undef, undef, undef, undef, undef, undef, undef, undef, undef, undef, undef, undef, undef, undef, undef, undef, undef, undef, undef, undef, undef, undef, undef, undef, undef, undef, undef, undef, undef, undef, undef, undef, undef, undef, undef, undef, undef, undef, undef], []⟩ W := by
    intro W pa ca HL RA
    rw [hR]
    refine wpAnyH_ready (rs := [11, 21]) (by kernel_rfl) (by simp) ?_
    refine AllReadyH.cons (i := 11) rfl (fun K hK => ?_) ?_
    · go_simp
      refine (itoa_any _ W (ht.below HL.chg hB) hx.h3.1 hx.h3.2).mono ?_
      rintro e w2 ⟨rfl, hb2⟩
      have HL2 := HL.below hb2
      try go_simp
      try clear hHeld
      refine hK.out _ _ HL2.S (fun hHeld => ?_)
      clear hK K
      try simp only [List.getElem_toArray, List.getElem_cons_zero, List.getElem_cons_succ, Act.put, List.setIfInBounds_toArray, List.set_cons_zero, List.set_cons_succ]
      rw [← hR]
      exact R_of (lit := #[true, true, true, true, true, true, true, true, true, true, true, true, true, true, false, true, true, true, false, true, true, false, false, true, true, false, false, false]) (by kernel_rfl) (H_4_1_0 _ pa ca HL2 (Lib.hid (RA.out.below hb2)))
    refine AllReadyH.cons (i := 21) rfl (fun K hK => ?_) ?_
    · go_simp
      have HL2 := HL.below (conv_below W x.name)
      try clear hHeld
      refine hK.out _ _ HL2.S (fun hHeld => ?_)
      clear hK K
      try simp only [List.getElem_toArray, List.getElem_cons_zero, List.getElem_cons_succ, Act.put, List.setIfInBounds_toArray, List.set_cons_zero, List.set_cons_succ]
      rw [← hR]
      exact R_of (lit := #[true, true, true, true, true, true, true, true, true, true, true, false, true, true, false, true, true, true, false, true, true, true, false, true, true, false, false, false]) (by kernel_rfl) (H_3_1_1 _ pa ca W.heap.size _ HL2 (Lib.hid (RA.out.below (conv_below W x.name))) (Lib.hid (conv_rd W x.name)))
    exact AllReadyH.nil
  have H_3_0_1 : ∀ (W : World) (pb cb : Nat), LB x A cap w W → Hid (RdB W (some ⟨pb, 0, none⟩) x.name.data.toList) → R 8 #[true, true, true, true, true, true, true, true, true, true, true, false, true, true, false, true, true, false, false, true, true, true, false, true, true, false, false, false] ⟨#[.agg #[.int .i64 x.n0, .int .i64 x.n1, .int .i64 x.n2, .int .i64 x.n3, .int .i64 x.n4, .string x.path, .string x.name, .slice A x.data.length cap], .pointer (some ⟨w.heap.size, 0, none⟩), .string ⟨#[]⟩, undef, undef, undef, undef, .pointer (some ⟨w.heap.size, 0, none⟩), .int .i64 x.n0, .string (strA (Lib.itoa x.n0)), .pointer (some ⟨w.heap.size, 1, none⟩), .int .i64 x.n1, .string (strA (Lib.itoa x.n1)), .pointer (some ⟨w.heap.size, 2, none⟩), .int .i64 x.n2, .string (strA (Lib.itoa x.n2)), .pointer (some ⟨w.heap.size, 3, none⟩), .int .i64 x.n3, undef, .pointer (some ⟨w.heap.size, 4, none⟩), .int .i64 x.n4, undef, .pointer (some ⟨w.heap.size, 5, none⟩), .string x.path, undef, undef, .pointer (some ⟨w.heap.size, 6, none⟩), .string x.name, .slice (some ⟨pb, 0, none⟩) x.name.size cb, undef, .pointer (some ⟨w.heap.size, 7, none⟩), .slice A x.data.length cap, undef, undef, undef, undef, undef, undef, undef, undef, undef, undef, undef, undef, undef, undef, undef, undef, undef, undef, undef, undef, undef, undef, undef, undef, undef, undef, undef, undef, undef, undef, undef, undef, undef, undef, undef, undef, undef, undef, undef, undef, undef, undef, undef, undef, undef, undef, undef, undef], []⟩ W := by
    intro W pb cb HL RB
    rw [hR]
    refine wpAnyH_ready (rs := [11, 17]) (by kernel_rfl) (by simp) ?_
    refine AllReadyH.cons (i := 11) rfl (fun K hK => ?_) ?_
    · go_simp
      refine (itoa_any _ W (ht.below HL.chg hB) hx.h3.1 hx.h3.2).mono ?_
      rintro e w2 ⟨rfl, hb2⟩
      have HL2 := HL.below hb2
      try go_simp
      try clear hHeld
      refine hK.out _ _ HL2.S (fun hHeld => ?_)
      clear hK K
      try simp only [List.getElem_toArray, List.getElem_cons_zero, List.getElem_cons_succ, Act.put, List.setIfInBounds_toArray, List.set_cons_zero, List.set_cons_succ]
      rw [← hR]
      exact R_of (lit := #[true, true, true, true, true, true, true, true, true, true, true, true, true, true, false, true, true, false, false, true, true, true, false, true, true, false, false, false]) (by kernel_rfl) (H_4_0_1 _ pb cb HL2 (Lib.hid (RB.out.below hb2)))
    refine AllReadyH.cons (i := 17) rfl (fun K hK => ?_) ?_
    · go_simp
      have HL2 := HL.below (conv_below W x.path)
      try clear hHeld
      refine hK.out _ _ HL2.S (fun hHeld => ?_)
      clear hK K
      try simp only [List.getElem_toArray, List.getElem_cons_zero, List.getElem_cons_succ, Act.put, List.setIfInBounds_toArray, List.set_cons_zero, List.set_cons_succ]
      rw [← hR]
      exact R_of (lit := #[true, true, true, true, true, true, true, true, true, true, true, false, true, true, false, true, true, true, false, true, true, true, false, true, true, false, false, false]) (by kernel_rfl) (H_3_1_1 _ W.heap.size _ pb cb HL2 (Lib.hid (conv_rd W x.path)) (Lib.hid (RB.out.below (conv_below W x.path))))
    exact AllReadyH.nil
  have H_3_0_0 : ∀ (W : World), LB x A cap w W → R 9 #[true, true, true, true, true, true, true, true, true, true, true, false, true, true, false, true, true, false, false, true, true, false, false, true, true, false, false, false] ⟨#[.agg #[.int .i64 x.n0, .int .i64 x.n1, .int .i64 x.n2, .int .i64 x.n3, .int .i64 x.n4, .string x.path, .string x.name, .slice A x.data.length cap], .pointer (some ⟨w.heap.size, 0, none⟩), .string ⟨#[]⟩, undef, undef, undef, undef, .pointer (some ⟨w.heap.size, 0, none⟩), .int .i64 x.n0, .string (strA (Lib.itoa x.n0)), .pointer (some ⟨w.heap.size, 1, none⟩), .int .i64 x.n1, .string (strA (Lib.itoa x.n1)), .pointer (some ⟨w.heap.size, 2, none⟩), .int .i64 x.n2, .string (strA (Lib.itoa x.n2)), .pointer (some ⟨w.heap.size, 3, none⟩), .int .i64 x.n3, undef, .pointer (some ⟨w.heap.size, 4, none⟩), .int .i64 x.n4, undef, .pointer (some ⟨w.heap.size, 5, none⟩), .string x.path, undef, undef, .pointer (some ⟨w.heap.size, 6, none⟩), .string x.name, undef, undef, .pointer (some ⟨w.heap.size, 7, none⟩), .slice A x.data.length cap, undef, undef, undef, undef, undef, undef, undef, undef, undef, undef, undef, undef, undef, undef, undef, undef, undef, undef, undef, undef, undef, undef, undef, undef, undef, undef, undef, undef, undef, undef, undef, undef, undef, undef, undef, undef, undef, undef, undef, undef, undef, undef, undef, undef, undef, undef, undef, undef], []⟩ W := by
    intro W HL
    rw [hR]
    refine wpAnyH_ready (rs := [11, 17, 21]) (by kernel_rfl) (by simp) ?_
    refine AllReadyH.cons (i := 11) rfl (fun K hK => ?_) ?_
    · go_simp
      refine (itoa_any _ W (ht.below HL.chg hB) hx.h3.1 hx.h3.2).mono ?_
      rintro e w2 ⟨rfl, hb2⟩
      have HL2 := HL.below hb2
      try go_simp
      try clear hHeld
      refine hK.out _ _ HL2.S (fun hHeld => ?_)
      clear hK K
      try simp only [List.getElem_toArray, List.getElem_cons_zero, List.getElem_cons_succ, Act.put, List.setIfInBounds_toArray, List.set_cons_zero, List.set_cons_succ]
      rw [← hR]
      exact R_of (lit := #[true, true, true, true, true, true, true, true, true, true, true, true, true, true, false, true, true, false, false, true, true, false, false, true, true, false, false, false]) (by kernel_rfl) (H_4_0_0 _ HL2)
    refine AllReadyH.cons (i := 17) rfl (fun K hK => ?_) ?_
    · go_simp
      have HL2 := HL.below (conv_below W x.path)
      try clear hHeld
      refine hK.out _ _ HL2.S (fun hHeld => ?_)
      clear hK K
      try simp only [List.getElem_toArray, List.getElem_cons_zero, List.getElem_cons_succ, Act.put, List.setIfInBounds_toArray, List.set_cons_zero, List.set_cons_succ]
      rw [← hR]
      exact R_of (lit := #[true, true, true, true, true, true, true, true, true, true, true, false, true, true, false, true, true, true, false, true, true, false, false, true, true, false, false, false]) (by kernel_rfl) (H_3_1_0 _ W.heap.size _ HL2 (Lib.hid (conv_rd W x.path)))
    refine AllReadyH.cons (i := 21) rfl (fun K hK => ?_) ?_
    · go_simp
      have HL2 := HL.below (conv_below W x.name)
      try clear hHeld
      refine hK.out _ _ HL2.S (fun hHeld => ?_)
      clear hK K
      try simp only [List.getElem_toArray, List.getElem_cons_zero, List.getElem_cons_succ, Act.put, List.setIfInBounds_toArray, List.set_cons_zero, List.set_cons_succ]
      rw [← hR]
      exact R_of (lit := #[true, true, true, true, true, true, true, true, true, true, true, false, true, true, false, true, true, false, false, true, true, true, false, true, true, false, false, false]) (by kernel_rfl) (H_3_0_1 _ W.heap.size _ HL2 (Lib.hid (conv_rd W x.name)))
    exact AllReadyH.nil
  have H_2_1_1 : ∀ (W : World) (pa ca : Nat) (pb cb : Nat), LB x A cap w W → Hid (RdB W (some ⟨pa, 0, none⟩) x.path.data.toList) → Hid (RdB W (some ⟨pb, 0, none⟩) x.name.data.toList) → R 8 #[true, true, true, true, true, true, true, true, false, true, true, false, true, true, false, true, true, true, false, true, true, true, false, true, true, false, false, false] ⟨#[.agg #[.int .i64 x.n0, .int .i64 x.n1, .int .i64 x.n2, .int .i64 x.n3, .int .i64 x.n4, .string x.path, .string x.name, .slice A x.data.length cap], .pointer (some ⟨w.heap.size, 0, none⟩), .string ⟨#[]⟩, undef, undef, undef, undef, .pointer (some ⟨w.heap.size, 0, none⟩), .int .i64 x.n0, .string (strA (Lib.itoa x.n0)), .pointer (some ⟨w.heap.size, 1, none⟩), .int .i64 x.n1, .string (strA (Lib.itoa x.n1)), .pointer (some ⟨w.heap.size, 2, none⟩), .int .i64 x.n2, undef, .pointer (some ⟨w.heap.size, 3, none⟩), .int .i64 x.n3, undef, .pointer (some ⟨w.heap.size, 4, none⟩), .int .i64 x.n4, undef, .pointer (some ⟨w.heap.size, 5, none⟩), .string x.path, .slice (some ⟨pa, 0, none⟩) x.path.size ca, undef, .pointer (some ⟨w.heap.size, 6, none⟩), .string x.name, .slice (some ⟨pb, 0, none⟩) x.name.size cb, undef, .pointer (some ⟨w.heap.size, 7, none⟩), .slice A x.data.length cap, undef, undef, undef, undef, undef, undef, undef, undef, undef, undef, undef, undef, undef, undef, undef, undef, undef, undef, undef, undef, undef, undef, undef, undef, undef, undef, undef, undef, undef, undef, undef, undef, undef, undef, undef, undef, undef, undef, undef, undef, undef, undef, undef, undef, undef, undef, undef, undef], []⟩ W := by
    intro W pa ca pb cb HL RA RB
    rw [hR]
    refine wpAnyH_ready (rs := [8]) (by kernel_rfl) (by simp) ?_
    refine AllReadyH.cons (i := 8) rfl (fun K hK => ?_) ?_
    · go_simp
      refine (itoa_any _ W (ht.below HL.chg hB) hx.h2.1 hx.h2.2).mono ?_
      rintro e w2 ⟨rfl, hb2⟩
      have HL2 := HL.below hb2
      try go_simp
      try clear hHeld
      refine hK.out _ _ HL2.S (fun hHeld => ?_)
      clear hK K
      try simp only [List.getElem_toArray, List.getElem_cons_zero, List.getElem_cons_succ, Act.put, List.setIfInBounds_toArray, List.set_cons_zero, List.set_cons_succ]
      rw [← hR]
      exact R_of (lit := #[true, true, true, true, true, true, true, true, true, true, true, false, true, true, false, true, true, true, false, true, true, true, false, true, true, false, false, false]) (by kernel_rfl) (H_3_1_1 _ pa ca pb cb HL2 (Lib.hid (RA.out.below hb2)) (Lib.hid (RB.out.below hb2)))
    exact AllReadyH.nil
  have H_2_1_0 : ∀ (W : World) (pa ca : Nat), LB x A cap w W → Hid (RdB W (some ⟨pa, 0, none⟩) x.path.data.toList) → R 9 #[true, true, true, true, true, true, true, true, false, true, true, false, true, true, false, true, true, true, false, true, true, false, false, true, true, false, false, false] ⟨#[.agg #[.int .i64 x.n0, .int .i64 x.n1, .int .i64 x.n2, .int .i64 x.n3, .int .i64 x.n4, .string x.path, .string x.name, .slice A x.data.length cap], .pointer (some ⟨w.heap.size, 0, none⟩), .string ⟨#[]⟩, undef, undef, undef, undef, .pointer (some ⟨w.heap.size, 0, none⟩), .int .i64 x.n0, .string (strA (Lib.itoa x.n0)), .pointer (some ⟨w.heap.size, 1, none⟩), .int .i64 x.n1, .string (strA (Lib.itoa x.n1)), .pointer (some ⟨w.heap.size, 2, none⟩), .int .i64 x.n2, undef, .pointer (some ⟨w.heap.size, 3, none⟩), .int .i64 x.n3, undef, .pointer (some ⟨w.heap.size, 4, none⟩), .int .i64 x.n4, undef, .pointer (some ⟨w.heap.size, 5, none⟩), .string x.path, .slice (some ⟨pa, 0, none⟩) x.path.size ca, undef, .pointer (some ⟨w.heap.size, 6, none⟩), .string x.name, undef, undef, .pointer (some ⟨w.heap.size, 7, none⟩), .slice A x.data.length cap, undef, undef, undef, undef, undef, undef, undef, undef, undef, undef, undef, undef, undef, undef, undef, undef, undef, undef, undef, undef, undef, undef, undef, undef, undef, undef, undef, undef, undef, undef, undef, undef, undef, undef, undef, undef, undef, undef, undef, undef, undef, undef, undef, undef, undef, undef, undef, undef], []⟩ W := by
    intro W pa ca HL RA
    rw [hR]
    refine wpAnyH_ready (rs := [8, 21]) (by kernel_rfl) (by simp) ?_
    refine AllReadyH.cons (i := 8) rfl (fun K hK => ?_) ?_
    · go_simp
      refine (itoa_any _ W (ht.below HL.chg hB) hx.h2.1 hx.h2.2).mono ?_
      rintro e w2 ⟨rfl, hb2⟩
      have HL2 := HL.below hb2
      try go_simp
      try clear hHeld
      refine hK.out _ _ HL2.S (fun hHeld => ?_)
      clear hK K
      try simp only [List.getElem_toArray, List.getElem_cons_zero, List.getElem_cons_succ, Act.put, List.setIfInBounds_toArray, List.set_cons_zero, List.set_cons_succ]
      rw [← hR]
      exact R_of (lit := #[true, true, true, true, true, true, true, true, true, true, true, false, true, true, false, true, true, true, false, true, true, false, false, true, true, false, false, false]) (by kernel_rfl) (H_3_1_0 _ pa ca HL2 (Lib.hid (RA.out.below hb2)))
    refine AllReadyH.cons (i := 21) rfl (fun K hK => ?_) ?_
    · go_simp
      have HL2 := HL.below (conv_below W x.name)
      try clear hHeld
      refine hK.out _ _ HL2.S (fun hHeld => ?_)
      clear hK K
      try simp only [List.getElem_toArray, List.getElem_cons_zero, List.getElem_cons_succ, Act.put, List.setIfInBounds_toArray, List.set_cons_zero, List.set_cons_succ]
      rw [← hR]
      exact R_of (lit := #[true, true, true, true, true, true, true, true, false, true, true, false, true, true, false, true, true, true, false, true, true, true, false, true, true, false, false, false]) (by kernel_rfl) (H_2_1_1 _ pa ca W.heap.size _ HL2 (Lib.hid (RA.out.below (conv_below W x.name))) (Lib.hid (conv_rd W x.name)))
    exact AllReadyH.nil
  have H_2_0_1 : ∀ (W : World) (pb cb : Nat), LB x A cap w W → Hid (RdB W (some ⟨pb, 0, none⟩) x.name.data.toList) → R 9 #[true, true, true, true, true, true, true, true, false, true, true, false, true, true, false, true, true, false, false, true, true, true, false, true, true, false, false, false] ⟨#[.agg #[.int .i64 x.n0, .int .i64 x.n1, .int .i64 x.n2, .int .i64 x.n3, .int .i64 x.n4, .string x.path, .string x.name, .slice A x.data.length cap], .pointer (some ⟨w.heap.size, 0, none⟩), .string ⟨#[]⟩, undef, undef, undef, undef, .pointer (some ⟨w.heap.size, 0, none⟩), .int .i64 x.n0, .string (strA (Lib.itoa x.n0)), .pointer (some ⟨w.heap.size, 1, none⟩), .int .i64 x.n1, .string (strA (Lib.itoa x.n1)), .pointer (some ⟨w.heap.size, 2, none⟩), .int .i64 x.n2, undef, .pointer (some ⟨w.heap.size, 3, none⟩), .int .i64 x.n3, undef, .pointer (some ⟨w.heap.size, 4, none⟩), .int .i64 x.n4, undef, .pointer (some ⟨w.heap.size, 5, none⟩), .string x.path, undef, undef, .pointer (some ⟨w.heap.size, 6, none⟩), .string x.name, .slice (some ⟨pb, 0, none⟩) x.name.size cb, undef, .pointer (some ⟨w.heap.size, 7, none⟩), .slice A x.data.length cap, undef, undef, undef, undef, undef, undef, undef, undef, undef, undef, undef, undef, undef, undef, undef, undef, undef, undef, undef, undef, undef, undef, undef, undef, undef, undef, undef, undef, undef, undef, undef, undef, undef, undef, undef, undef, undef, undef, undef, undef, undef, undef, undef, undef, undef, undef, undef, undef], []⟩ W := by
    intro W pb cb HL RB
    rw [hR]
    refine wpAnyH_ready (rs := [8, 17]) (by kernel_rfl) (by simp) ?_
    refine AllReadyH.cons (i := 8) rfl (fun K hK => ?_) ?_
    · go_simp
      refine (itoa_any _ W (ht.below HL.chg hB) hx.h2.1 hx.h2.2).mono ?_
      rintro e w2 ⟨rfl, hb2⟩
      have HL2 := HL.below hb2
      try go_simp
      try clear hHeld
      refine hK.out _ _ HL2.S (fun hHeld => ?_)
      clear hK K
      try simp only [List.getElem_toArray, List.getElem_cons_zero, List.getElem_cons_succ, Act.put, List.setIfInBounds_toArray, List.set_cons_zero, List.set_cons_succ]
      rw [← hR]
      exact R_of (lit := #[true, true, true, true, true, true, true, true, true, true, true, false, true, true, false, true, true, false, false, true, true, true, false, true, true, false, false, false]) (by kernel_rfl) (H_3_0_1 _ pb cb HL2 (Lib.hid (RB.out.below hb2)))
    refine AllReadyH.cons (i := 17) rfl (fun K hK => ?_) ?_
    · go_simp
      have HL2 := HL.below (conv_below W x.path)
      try clear hHeld
      refine hK.out _ _ HL2.S (fun hHeld => ?_)
      clear hK K
      try simp only [List.getElem_toArray, List.getElem_cons_zero, List.getElem_cons_succ, Act.put, List.setIfInBounds_toArray, List.set_cons_zero, List.set_cons_succ]
      rw [← hR]
      exact R_of (lit := #[true, true, true, true, true, true, true, true, false, true, true, false, true, true, false, true, true, true, false, true, true, true, false, true, true, false, false, false]) (by kernel_rfl) (H_2_1_1 _ W.heap.size _ pb cb HL2 (Lib.hid (conv_rd W x.path)) (Lib.hid (RB.out.below (conv_below W x.path))))
    exact AllReadyH.nil
  have H_2_0_0 : ∀ (W : World), LB x A cap w W → R 10 #[true, true, true, true, true, true, true, true, false, true, true, false, true, true, false, true, true, false, false, true, true, false, false, true, true, false, false, false] ⟨#[.agg #[.int .i64 x.n0, .int .i64 x.n1, .int .i64 x.n2, .int .i64 x.n3, .int .i64 x.n4, .string x.path, .string x.name, .slice A x.data.length cap], .pointer (some ⟨w.heap.size, 0, none⟩), .string ⟨#[]⟩, undef, undef, undef, undef, .pointer (some ⟨w.heap.size, 0, none⟩), .int .i64 x.n0, .string (strA (Lib.itoa x.n0)), .pointer (some ⟨w.heap.size, 1, none⟩), .int .i64 x.n1, .string (strA (Lib.itoa x.n1)), .pointer (some ⟨w.heap.size, 2, none⟩), .int .i64 x.n2, undef, .pointer (some ⟨w.heap.size, 3, none⟩), .int .i64 x.n3, undef, .pointer (some ⟨w.heap.size, 4, none⟩), .int .i64 x.n4, undef, .pointer (some ⟨w.heap.size, 5, none⟩), .string x.path, undef, undef, .pointer (some ⟨w.heap.size, 6, none⟩), .string x.name, undef, undef, .pointer (some ⟨w.heap.size, 7, none⟩), .slice A x.data.length cap, undef, undef, undef, undef, undef, undef, undef, undef, undef, undef, undef, undef, undef, undef, undef, undef, undef, undef, undef, undef, undef, undef, undef, undef, undef, undef, undef, undef, undef, undef, undef, undef, undef, undef, undef, undef, undef, undef, undef, undef, undef, undef, undef, undef, undef, undef, undef, undef], []⟩ W := by
    intro W HL
    rw [hR]
    refine wpAnyH_ready (rs := [8, 17, 21]) (by kernel_rfl) (by simp) ?_
    refine AllReadyH.cons (i := 8) rfl (fun K hK => ?_) ?_
    · go_simp
      refine (itoa_any _ W (ht.below HL.chg hB) hx.h2.1 hx.h2.2).mono ?_
      rintro e w2 ⟨rfl, hb2⟩
      have HL2 := HL.below hb2
      try go_simp
      try clear hHeld
      refine hK.out _ _ HL2.S (fun hHeld => ?_)
      clear hK K
      try simp only [List.getElem_toArray, List.getElem_cons_zero, List.getElem_cons_succ, Act.put, List.setIfInBounds_toArray, List.set_cons_zero, List.set_cons_succ]
      rw [← hR]
      exact R_of (lit := #[true, true, true, true, true, true, true, true, true, true, true, false, true, true, false, true, true, false, false, true, true, false, false, true, true, false, false, false]) (by kernel_rfl) (H_3_0_0 _ HL2)
    refine AllReadyH.cons (i := 17) rfl (fun K hK => ?_) ?_
    · go_simp
      have HL2 := HL.below (conv_below W x.path)
      try clear hHeld
      refine hK.out _ _ HL2.S (fun hHeld => ?_)
      clear hK K
      try simp only [List.getElem_toArray, List.getElem_cons_zero, List.getElem_cons_succ, Act.put, List.setIfInBounds_toArray, List.set_cons_zero, List.set_cons_succ]
      rw [← hR]
      exact R_of (lit := #[true, true, true, true, true, true, true, true, false, true, true, false, true, true, false, true, true, true, false, true, true, false, false, true, true, false, false, false]) (by kernel_rfl) (H_2_1_0 _ W.heap.size _ HL2 (Lib.hid (conv_rd W x.path)))
    refine AllReadyH.cons (i := 21) rfl (fun K hK => ?_) ?_
    · go_simp
      have HL2 := HL.below (conv_below W x.name)
      try clear hHeld
      refine hK.out _ _ HL2.S (fun hHeld => ?_)
      clear hK K
      try simp only [List.getElem_toArray, List.getElem_cons_zero, List.getElem_cons_succ, Act.put, List.setIfInBounds_toArray, List.set_cons_zero, List.set_cons_succ]
      rw [← hR]
      exact R_of (lit := #[true, true, true, true, true, true, true, true, false, true, true, false, true, true, false, true, true, false, false, true, true, true, false, true, true, false, false, false]) (by kernel_rfl) (H_2_0_1 _ W.heap.size _ HL2 (Lib.hid (conv_rd W x.name)))
    exact AllReadyH.nil
  have H_1_1_1 : ∀ (W : World) (pa ca : Nat) (pb cb : Nat), LB x A cap w W → Hid (RdB W (some ⟨pa, 0, none⟩) x.path.data.toList) → Hid (RdB W (some ⟨pb, 0, none⟩) x.name.data.toList) → R 9 #[true, true, true, true, true, false, true, true, false, true, true, false, true, true, false, true, true, true, false, true, true, true, false, true, true, false, false, false] ⟨#[.agg #[.int .i64 x.n0, .int .i64 x.n1, .int .i64 x.n2, .int .i64 x.n3, .int .i64 x.n4, .string x.path, .string x.name, .slice A x.data.length cap], .pointer (some ⟨w.heap.size, 0, none⟩), .string ⟨#[]⟩, undef, undef, undef, undef, .pointer (some ⟨w.heap.size, 0, none⟩), .int .i64 x.n0, .string (strA (Lib.itoa x.n0)), .pointer (some ⟨w.heap.size, 1, none⟩), .int .i64 x.n1, undef, .pointer (some ⟨w.heap.size, 2, none⟩), .int .i64 x.n2, undef, .pointer (some ⟨w.heap.size, 3, none⟩), .int .i64 x.n3, undef, .pointer (some ⟨w.heap.size, 4, none⟩), .int .i64 x.n4, undef, .pointer (some ⟨w.heap.size, 5, none⟩), .string x.path, .slice (some ⟨pa, 0, none⟩) x.path.size ca, undef, .pointer (some ⟨w.heap.size, 6, none⟩), .string x.name, .slice (some ⟨pb, 0, none⟩) x.name.size cb, undef, .pointer (some ⟨w.heap.size, 7, none⟩), .slice A x.data.length cap, undef, undef, undef, undef, undef, undef, undef, undef, undef, undef, undef, undef, undef, undef, undef, undef, undef, undef, undef, undef, undef, undef, undef, undef, undef, undef, undef, undef, undef, undef, undef, undef, undef, undef, undef, undef, undef, undef, undef, undef, undef, undef, undef, undef, undef, undef, undef, undef], []⟩ W := by
    intro W pa ca pb cb HL RA RB
    rw [hR]
    refine wpAnyH_ready (rs := [5]) (by kernel_rfl) (by simp) ?_
    refine AllReadyH.cons (i := 5) rfl (fun K hK => ?_) ?_
    · go_simp
      refine (itoa_any _ W (ht.below HL.chg hB) hx.h1.1 hx.h1.2).mono ?_
      rintro e w2 ⟨rfl, hb2⟩
      have HL2 := HL.below hb2
      try go_simp
      try clear hHeld
      refine hK.out _ _ HL2.S (fun hHeld => ?_)
      clear hK K
      try simp only [List.getElem_toArray, List.getElem_cons_zero, List.getElem_cons_succ, Act.put, List.setIfInBounds_toArray, List.set_cons_zero, List.set_cons_succ]
      rw [← hR]
      exact R_of (lit := #[true, true, true, true, true, true, true, true, false, true, true, false, true, true, false, true, true, true, false, true, true, true, false, true, true, false, false, false]) (by kernel_rfl) (H_2_1_1 _ pa ca pb cb HL2 (Lib.hid (RA.out.below hb2)) (Lib.hid (RB.out.below hb2)))
    exact AllReadyH.nil
  have H_1_1_0 : ∀ (W : World) (pa ca : Nat), LB x A cap w W → Hid (RdB W (some ⟨pa, 0, none⟩) x.path.data.toList) → R 10 #[true, true, true, true, true, false, true, true, false, true, true, false, true, true, false, true, true, true, false, true, true, false, false, true, true, false, false, false] ⟨#[.agg #[.int .i64 x.n0, .int .i64 x.n1, .int .i64 x.n2, .int .i64 x.n3, .int .i64 x.n4, .string x.path, .string x.name, .slice A x.data.length cap], .pointer (some ⟨w.heap.size, 0, none⟩), .string ⟨#[]⟩, undef, undef, undef, undef, .pointer (some ⟨w.heap.size, 0, none⟩), .int .i64 x.n0, .string (strA (Lib.itoa x.n0)), .pointer (some ⟨w.heap.size, 1, none⟩), .int .i64 x.n1, undef, .pointer (some ⟨w.heap.size, 2, none⟩), .int .i64 x.n2, undef, .pointer (some ⟨w.heap.size, 3, none⟩), .int .i64 x.n3, undef, .pointer (some ⟨w.heap.size, 4, none⟩), .int .i64 x.n4, undef, .pointer (some ⟨w.heap.size, 5, none⟩), .string x.path, .slice (some ⟨pa, 0, none⟩) x.path.size ca, undef, .pointer (some ⟨w.heap.size, 6, none⟩), .string x.name, undef, undef, .pointer (some ⟨w.heap.size, 7, none⟩), .slice A x.data.length cap, undef, undef, undef, undef, undef, undef, undef, undef, undef, undef, undef, undef, undef, undef, undef, undef, undef, undef, undef, undef, undef, undef, undef, undef, undef, undef, undef, undef, undef, undef, undef, undef, undef, undef, undef, undef, undef, undef, undef, undef, undef, undef, undef, undef, undef, undef, undef, undef], []⟩ W := by
    intro W pa ca HL RA
    rw [hR]
    refine wpAnyH_ready (rs := [5, 21]) (by kernel_rfl) (by simp) ?_
    refine AllReadyH.cons (i := 5) rfl (fun K hK => ?_) ?_
    · go_simp
      refine (itoa_any _ W (ht.below HL.chg hB) hx.h1.1 hx.h1.2).mono ?_
      rintro e w2 ⟨rfl, hb2⟩
      have HL2 := HL.below hb2
      try go_simp
      try clear hHeld
      refine hK.out _ _ HL2.S (fun hHeld => ?_)
      clear hK K
      try simp only [List.getElem_toArray, List.getElem_cons_zero, List.getElem_cons_succ, Act.put, List.setIfInBounds_toArray, List.set_cons_zero, List.set_cons_succ]
      rw [← hR]
      exact R_of (lit := #[true, true, true, true, true, true, true, true, false, true, true, false, true, true, false, true, true, true, false, true, true, false, false, true, true, false, false, false]) (by kernel_rfl) (H_2_1_0 _ pa ca HL2 (Lib.hid (RA.out.below hb2)))
    refine AllReadyH.cons (i := 21) rfl (fun K hK => ?_) ?_
    · go_simp
      have HL2 := HL.below (conv_below W x.name)
      try clear hHeld
      refine hK.out _ _ HL2.S (fun hHeld => ?_)
      clear hK K
      try simp only [List.getElem_toArray, List.getElem_cons_zero, List.getElem_cons_succ, Act.put, List.setIfInBounds_toArray, List.set_cons_zero, List.set_cons_succ]
      rw [← hR]
      exact R_of (lit := #[true, true, true, true, true, false, true, true, false, true, true, false, true, true, false, true, true, true, false, true, true, true, false, true, true, false, false, false]) (by kernel_rfl) (H_1_1_1 _ pa ca W.heap.size _ HL2 (Lib.hid (RA.out.below (conv_below W x.name))) (Lib.hid (conv_rd W x.name)))
    exact AllReadyH.nil
  have H_1_0_1 : ∀ (W : World) (pb cb : Nat), LB x A cap w W → Hid (RdB W (some ⟨pb, 0, none⟩) x.name.data.toList) → R 10 #[true, true, true, true, true, false, true, true, false, true, true, false, true, true, false, true, true, false, false, true, true, true, false, true, true, false, false, false] ⟨#[.agg #[.int .i64 x.n0, .int .i64 x.n1, .int .i64 x.n2, .int .i64 x.n3, .int .i64 x.n4, .string x.path, .string x.name, .slice A x.data.length cap], .pointer (some ⟨w.heap.size, 0, none⟩), .string ⟨#[]⟩, undef, undef, undef, undef, .pointer (some ⟨w.heap.size, 0, none⟩), .int .i64 x.n0, .string (strA (Lib.itoa x.n0)), .pointer (some ⟨w.heap.size, 1, none⟩), .int .i64 x.n1, undef, .pointer (some ⟨w.heap.size, 2, none⟩), .int .i64 x.n2, undef, .pointer (some ⟨w.heap.size, 3, none⟩), .int .i64 x.n3, undef, .pointer (some ⟨w.heap.size, 4, none⟩), .int .i64 x.n4, undef, .pointer (some ⟨w.heap.size, 5, none⟩), .string x.path, undef, undef, .pointer (some ⟨w.heap.size, 6, none⟩), .string x.name, .slice (some ⟨pb, 0, none⟩) x.name.size cb, undef, .pointer (some ⟨w.heap.size, 7, none⟩), .slice A x.data.length cap, undef, undef, undef, undef, undef, undef, undef, undef, undef, undef, undef, undef, undef, undef, undef, undef, undef, undef, undef, undef, undef, undef, undef, undef, undef, undef, undef, undef, undef, undef, undef, undef, undef, undef, undef, undef, undef, undef, undef, undef, undef, undef, undef, undef, undef, undef, undef, undef], []⟩ W := by
    intro W pb cb HL RB
    rw [hR]
    refine wpAnyH_ready (rs := [5, 17]) (by kernel_rfl) (by simp) ?_
    refine AllReadyH.cons (i := 5) rfl (fun K hK => ?_) ?_
    · go_simp
      refine (itoa_any _ W (ht.below HL.chg hB) hx.h1.1 hx.h1.2).mono ?_
      rintro e w2 ⟨rfl, hb2⟩
      have HL2 := HL.below hb2
      try go_simp
      try clear hHeld
      refine hK.out _ _ HL2.S (fun hHeld => ?_)
      clear hK K
      try simp only [List.getElem_toArray, List.getElem_cons_zero, List.getElem_cons_succ, Act.put, List.setIfInBounds_toArray, List.set_cons_zero, List.set_cons_succ]
      rw [← hR]
      exact R_of (lit := #[true, true, true, true, true, true, true, true, false, true, true, false, true, true, false, true, true, false, false, true, true, true, false, true, true, false, false, false]) (by kernel_rfl) (H_2_0_1 _ pb cb HL2 (Lib.hid (RB.out.below hb2)))
    refine AllReadyH.cons (i := 17) rfl (fun K hK => ?_) ?_
    · go_simp
      have HL2 := HL.below (conv_below W x.path)
      try clear hHeld
      refine hK.out _ _ HL2.S (fun hHeld => ?_)
      clear hK K
      try simp only [List.getElem_toArray, List.getElem_cons_zero, List.getElem_cons_succ, Act.put, List.setIfInBounds_toArray, List.set_cons_zero, List.set_cons_succ]
      rw [← hR]
      exact R_of (lit := #[true, true, true, true, true, false, true, true, false, true, true, false, true, true, false, true, true, true, false, true, true, true, false, true, true, false, false, false]) (by kernel_rfl) (H_1_1_1 _ W.heap.size _ pb cb HL2 (Lib.hid (conv_rd W x.path)) (Lib.hid (RB.out.below (conv_below W x.path))))
    exact AllReadyH.nil
  have H_1_0_0 : ∀ (W : World), LB x A cap w W → R 11 #[true, true, true, true, true, false, true, true, false, true, true, false, true, true, false, true, true, false, false, true, true, false, false, true, true, false, false, false] ⟨#[.agg #[.int .i64 x.n0, .int .i64 x.n1, .int .i64 x.n2, .int .i64 x.n3, .int .i64 x.n4, .string x.path, .string x.name, .slice A x.data.length cap], .pointer (some ⟨w.heap.size, 0, none⟩), .string ⟨#[]⟩, undef, undef, undef, undef, .pointer (some ⟨w.heap.size, 0, none⟩), .int .i64 x.n0, .string (strA (Lib.itoa x.n0)), .pointer (some ⟨w.heap.size, 1, none⟩), .int .i64 x.n1, undef, .pointer (some ⟨w.heap.size, 2, none⟩), .int .i64 x.n2, undef, .pointer (some ⟨w.heap.size, 3, none⟩), .int .i64 x.n3, undef, .pointer (some ⟨w.heap.size, 4, none⟩), .int .i64 x.n4, undef, .pointer (some ⟨w.heap.size, 5, none⟩), .string x.path, undef, undef, .pointer (some ⟨w.heap.size, 6, none⟩), .string x.name, undef, undef, .pointer (some ⟨w.heap.size, 7, none⟩), .slice A x.data.length cap, undef, undef, undef, undef, undef, undef, undef, undef, undef, undef, undef, undef, undef, undef, undef, undef, undef, undef, undef, undef, undef, undef, undef, undef, undef, undef, undef, undef, undef, undef, undef, undef, undef, undef, undef, undef, undef, undef, undef, undef, undef, undef, undef, undef, undef, undef, undef, undef], []⟩ W := by
    intro W HL
    rw [hR]
    refine wpAnyH_ready (rs := [5, 17, 21]) (by kernel_rfl) (by simp) ?_
    refine AllReadyH.cons (i := 5) rfl (fun K hK => ?_) ?_
    · go_simp
      refine (itoa_any _ W (ht.below HL.chg hB) hx.h1.1 hx.h1.2).mono ?_
      rintro e w2 ⟨rfl, hb2⟩
      have HL2 := HL.below hb2
      try go_simp
      try clear hHeld
      refine hK.out _ _ HL2.S (fun hHeld => ?_)
      clear hK K
      try simp only [List.getElem_toArray, List.getElem_cons_zero, List.getElem_cons_succ, Act.put, List.setIfInBounds_toArray, List.set_cons_zero, List.set_cons_succ]
      rw [← hR]
      exact R_of (lit := #[true, true, true, true, true, true, true, true, false, true, true, false, true, true, false, true, true, false, false, true, true, false, false, true, true, false, false, false]) (by kernel_rfl) (H_2_0_0 _ HL2)
    refine AllReadyH.cons (i := 17) rfl (fun K hK => ?_) ?_
    · go_simp
      have HL2 := HL.below (conv_below W x.path)
      try clear hHeld
      refine hK.out _ _ HL2.S (fun hHeld => ?_)
      clear hK K
      try simp only [List.getElem_toArray, List.getElem_cons_zero, List.getElem_cons_succ, Act.put, List.setIfInBounds_toArray, List.set_cons_zero, List.set_cons_succ]
      rw [← hR]
      exact R_of (lit := #[true, true, true, true, true, false, true, true, false, true, true, false, true, true, false, true, true, true, false, true, true, false, false, true, true, false, false, false]) (by kernel_rfl) (H_1_1_0 _ W.heap.size _ HL2 (Lib.hid (conv_rd W x.path)))
    refine AllReadyH.cons (i := 21) rfl (fun K hK => ?_) ?_
    · go_simp
      have HL2 := HL.below (conv_below W x.name)
      try clear hHeld
      refine hK.out _ _ HL2.S (fun hHeld => ?_)
      clear hK K
      try simp only [List.getElem_toArray, List.getElem_cons_zero, List.getElem_cons_succ, Act.put, List.setIfInBounds_toArray, List.set_cons_zero, List.set_cons_succ]
      rw [← hR]
      exact R_of (lit := #[true, true, true, true, true, false, true, true, false, true, true, false, true, true, false, true, true, false, false, true, true, true, false, true, true, false, false, false]) (by kernel_rfl) (H_1_0_1 _ W.heap.size _ HL2 (Lib.hid (conv_rd W x.name)))
    exact AllReadyH.nil
  have H_0_1_1 : ∀ (W : World) (pa ca : Nat) (pb cb : Nat), LB x A cap w W → Hid (RdB W (some ⟨pa, 0, none⟩) x.path.data.toList) → Hid (RdB W (some ⟨pb, 0, none⟩) x.name.data.toList) → R 10 #[true, true, false, true, true, false, true, true, false, true, true, false, true, true, false, true, true, true, false, true, true, true, false, true, true, false, false, false] ⟨#[.agg #[.int .i64 x.n0, .int .i64 x.n1, .int .i64 x.n2, .int .i64 x.n3, .int .i64 x.n4, .string x.path, .string x.name, .slice A x.data.length cap], .pointer (some ⟨w.heap.size, 0, none⟩), .string ⟨#[]⟩, undef, undef, undef, undef, .pointer (some ⟨w.heap.size, 0, none⟩), .int .i64 x.n0, undef, .pointer (some ⟨w.heap.size, 1, none⟩), .int .i64 x.n1, undef, .pointer (some ⟨w.heap.size, 2, none⟩), .int .i64 x.n2, undef, .pointer (some ⟨w.heap.size, 3, none⟩), .int .i64 x.n3, undef, .pointer (some ⟨w.heap.size, 4, none⟩), .int .i64 x.n4, undef, .pointer (some ⟨w.heap.size, 5, none⟩), .string x.path, .slice (some ⟨pa, 0, none⟩) x.path.size ca, undef, .pointer (some ⟨w.heap.size, 6, none⟩), .string x.name, .slice (some ⟨pb, 0, none⟩) x.name.size cb, undef, .pointer (some ⟨w.heap.size, 7, none⟩), .slice A x.data.length cap, undef, undef, undef, undef, undef, undef, undef, undef, undef, undef, undef, undef, undef, undef, undef, undef, undef, undef, undef, undef, undef, undef, undef, undef, undef, undef, undef, undef, undef, undef, undef, undef, undef, undef, undef, undef, undef, undef, undef, undef, undef, undef, undef, undef, undef, undef, undef, undef], []⟩ W := by
    intro W pa ca pb cb HL RA RB
    rw [hR]
    refine wpAnyH_ready (rs := [2]) (by kernel_rfl) (by simp) ?_
    refine AllReadyH.cons (i := 2) rfl (fun K hK => ?_) ?_
    · go_simp
      refine (itoa_any _ W (ht.below HL.chg hB) hx.h0.1 hx.h0.2).mono ?_
      rintro e w2 ⟨rfl, hb2⟩
      have HL2 := HL.below hb2
      try go_simp
      try clear hHeld
      refine hK.out _ _ HL2.S (fun hHeld => ?_)
      clear hK K
      try simp only [List.getElem_toArray, List.getElem_cons_zero, List.getElem_cons_succ, Act.put, List.setIfInBounds_toArray, List.set_cons_zero, List.set_cons_succ]
      rw [← hR]
      exact R_of (lit := #[true, true, true, true, true, false, true, true, false, true, true, false, true, true, false, true, true, true, false, true, true, true, false, true, true, false, false, false]) (by kernel_rfl) (H_1_1_1 _ pa ca pb cb HL2 (Lib.hid (RA.out.below hb2)) (Lib.hid (RB.out.below hb2)))
    exact AllReadyH.nil
  have H_0_1_0 : ∀ (W : World) (pa ca : Nat), LB x A cap w W → Hid (RdB W (some ⟨pa, 0, none⟩) x.path.data.toList) → R 11 #[true, true, false, true, true, false, true, true, false, true, true, false, true, true, false, true, true, true, false, true, true, false, false, true, true, false, false, false] ⟨#[.agg #[.int .i64 x.n0, .int .i64 x.n1, .int .i64 x.n2, .int .i64 x.n3, .int .i64 x.n4, .string x.path, .string x.name, .slice A x.data.length cap], .pointer (some ⟨w.heap.size, 0, none⟩), .string ⟨#[]⟩, undef, undef, undef, undef, .pointer (some ⟨w.heap.size, 0, none⟩), .int .i64 x.n0, undef, .pointer (some ⟨w.heap.size, 1, none⟩), .int .i64 x.n1, undef, .pointer (some ⟨w.heap.size, 2, none⟩), .int .i64 x.n2, undef, .pointer (some ⟨w.heap.size, 3, none⟩), .int .i64 x.n3, undef, .pointer (some ⟨w.heap.size, 4, none⟩), .int .i64 x.n4, undef, .pointer (some ⟨w.heap.size, 5, none⟩), .string x.path, .slice (some ⟨pa, 0, none⟩) x.path.size ca, undef, .pointer (some ⟨w.heap.size, 6, none⟩), .string x.name, undef, undef, .pointer (some ⟨w.heap.size, 7, none⟩), .slice A x.data.length cap, undef, undef, undef, undef, undef, undef, undef, undef, undef, undef, undef, undef, undef, undef, undef, undef, undef, undef, undef, undef, undef, undef, undef, undef, undef, undef, undef, undef, undef, undef, undef, undef, undef, undef, undef, undef, undef, undef, undef, undef, undef, undef, undef, undef, undef, undef, undef, undef], []⟩ W := by
    intro W pa ca HL RA
    rw [hR]
    refine wpAnyH_ready (rs := [2, 21]) (by kernel_rfl) (by simp) ?_
    refine AllReadyH.cons (i := 2) rfl (fun K hK => ?_) ?_
    · go_simp
      refine (itoa_any _ W (ht.below HL.chg hB) hx.h0.1 hx.h0.2).mono ?_
      rintro e w2 ⟨rfl, hb2⟩
      have HL2 := HL.below hb2
      try go_simp
      try clear hHeld
      refine hK.out _ _ HL2.S (fun hHeld => ?_)
      clear hK K
      try simp only [List.getElem_toArray, List.getElem_cons_zero, List.getElem_cons_succ, Act.put, List.setIfInBounds_toArray, List.set_cons_zero, List.set_cons_succ]
      rw [← hR]
      exact R_of (lit := #[true, true, true, true, true, false, true, true, false, true, true, false, true, true, false, true, true, true, false, true, true, false, false, true, true, false, false, false]) (by kernel_rfl) (H_1_1_0 _ pa ca HL2 (Lib.hid (RA.out.below hb2)))
    refine AllReadyH.cons (i := 21) rfl (fun K hK => ?_) ?_
    · go_simp
      have HL2 := HL.below (conv_below W x.name)
      try clear hHeld
      refine hK.out _ _ HL2.S (fun hHeld => ?_)
      clear hK K
      try simp only [List.getElem_toArray, List.getElem_cons_zero, List.getElem_cons_succ, Act.put, List.setIfInBounds_toArray, List.set_cons_zero, List.set_cons_succ]
      rw [← hR]
      exact R_of (lit := #[true, true, false, true, true, false, true, true, false, true, true, false, true, true, false, true, true, true, false, true, true, true, false, true, true, false, false, false]) (by kernel_rfl) (H_0_1_1 _ pa ca W.heap.size _ HL2 (Lib.hid (RA.out.below (conv_below W x.name))) (Lib.hid (conv_rd W x.name)))
    exact AllReadyH.nil
  have H_0_0_1 : ∀ (W : World) (pb cb : Nat), LB x A cap w W → Hid (RdB W (some ⟨pb, 0, none⟩) x.name.data.toList) → R 11 #[true, true, false, true, true, false, true, true, false, true, true, false, true, true, false, true, true, false, false, true, true, true, false, true, true, false, false, false] ⟨#[.agg #[.int .i64 x.n0, .int .i64 x.n1, .int .i64 x.n2, .int .i64 x.n3, .int .i64 x.n4, .string x.path, .string x.name, .slice A x.data.length cap], .pointer (some ⟨w.heap.size, 0, none⟩), .string ⟨#[]⟩, undef, undef, undef, undef, .pointer (some ⟨w.heap.size, 0, none⟩), .int .i64 x.n0, undef, .pointer (some ⟨w.heap.size, 1, none⟩), .int .i64 x.n1, undef, .pointer (some ⟨w.heap.size, 2, none⟩), .int .i64 x.n2, undef, .pointer (some ⟨w.heap.size, 3, none⟩), .int .i64 x.n3, undef, .pointer (some ⟨w.heap.size, 4, none⟩), .int .i64 x.n4, undef, .pointer (some ⟨w.heap.size, 5, none⟩), .string x.path, undef, undef, .pointer (some ⟨w.heap.size, 6, none⟩), .string x.name, .slice (some ⟨pb, 0, none⟩) x.name.size cb, undef, .pointer (some ⟨w.heap.size, 7, none⟩), .slice A x.data.length cap, undef, undef, undef, undef, undef, undef, undef, undef, undef, undef, undef, undef, undef, undef, undef, undef, undef, undef, undef, undef, undef, undef, undef, undef, undef, undef, undef, undef, undef, undef, undef, undef, undef, undef, undef, undef, undef, undef, undef, undef, undef, undef, undef, undef, undef, undef, undef, undef], []⟩ W := by
    intro W pb cb HL RB
    rw [hR]
    refine wpAnyH_ready (rs := [2, 17]) (by kernel_rfl) (by simp) ?_
    refine AllReadyH.cons (i := 2) rfl (fun K hK => ?_) ?_
    · go_simp
      refine (itoa_any _ W (ht.below HL.chg hB) hx.h0.1 hx.h0.2).mono ?_
      rintro e w2 ⟨rfl, hb2⟩
      have HL2 := HL.below hb2
      try go_simp
      try clear hHeld
      refine hK.out _ _ HL2.S (fun hHeld => ?_)
      clear hK K
      try simp only [List.getElem_toArray, List.getElem_cons_zero, List.getElem_cons_succ, Act.put, List.setIfInBounds_toArray, List.set_cons_zero, List.set_cons_succ]
      rw [← hR]
      exact R_of (lit := #[true, true, true, true, true, false, true, true, false, true, true, false, true, true, false, true, true, false, false, true, true, true, false, true, true, false, false, false]) (by kernel_rfl) (H_1_0_1 _ pb cb HL2 (Lib.hid (RB.out.below hb2)))
    refine AllReadyH.cons (i := 17) rfl (fun K hK => ?_) ?_
    · go_simp
      have HL2 := HL.below (conv_below W x.path)
      try clear hHeld
      refine hK.out _ _ HL2.S (fun hHeld => ?_)
      clear hK K
      try simp only [List.getElem_toArray, List.getElem_cons_zero, List.getElem_cons_succ, Act.put, List.setIfInBounds_toArray, List.set_cons_zero, List.set_cons_succ]
      rw [← hR]
      exact R_of (lit := #[true, true, false, true, true, false, true, true, false, true, true, false, true, true, false, true, true, true, false, true, true, true, false, true, true, false, false, false]) (by kernel_rfl) (H_0_1_1 _ W.heap.size _ pb cb HL2 (Lib.hid (conv_rd W x.path)) (Lib.hid (RB.out.below (conv_below W x.path))))
    exact AllReadyH.nil
  have H_0_0_0 : ∀ (W : World), LB x A cap w W → R 12 #[true, true, false, true, true, false, true, true, false, true, true, false, true, true, false, true, true, false, false, true, true, false, false, true, true, false, false, false] ⟨#[.agg #[.int .i64 x.n0, .int .i64 x.n1, .int .i64 x.n2, .int .i64 x.n3, .int .i64 x.n4, .string x.path, .string x.name, .slice A x.data.length cap], .pointer (some ⟨w.heap.size, 0, none⟩), .string ⟨#[]⟩, undef, undef, undef, undef, .pointer (some ⟨w.heap.size, 0, none⟩), .int .i64 x.n0, undef, .pointer (some ⟨w.heap.size, 1, none⟩), .int .i64 x.n1, undef, .pointer (some ⟨w.heap.size, 2, none⟩), .int .i64 x.n2, undef, .pointer (some ⟨w.heap.size, 3, none⟩), .int .i64 x.n3, undef, .pointer (some ⟨w.heap.size, 4, none⟩), .int .i64 x.n4, undef, .pointer (some ⟨w.heap.size, 5, none⟩), .string x.path, undef, undef, .pointer (some ⟨w.heap.size, 6, none⟩), .string x.name, undef, undef, .pointer (some ⟨w.heap.size, 7, none⟩), .slice A x.data.length cap, undef, undef, undef, undef, undef, undef, undef, undef, undef, undef, undef, undef, undef, undef, undef, undef, undef, undef, undef, undef, undef, undef, undef, undef, undef, undef, undef, undef, undef, undef, undef, undef, undef, undef, undef, undef, undef, undef, undef, undef, undef, undef, undef, undef, undef, undef, undef, undef], []⟩ W := by
    intro W HL
    rw [hR]
    refine wpAnyH_ready (rs := [2, 17, 21]) (by kernel_rfl) (by simp) ?_
    refine AllReadyH.cons (i := 2) rfl (fun K hK => ?_) ?_
    · go_simp
      refine (itoa_any _ W (ht.below HL.chg hB) hx.h0.1 hx.h0.2).mono ?_
      rintro e w2 ⟨rfl, hb2⟩
      have HL2 := HL.below hb2
      try go_simp
      try clear hHeld
      refine hK.out _ _ HL2.S (fun hHeld => ?_)
      clear hK K
      try simp only [List.getElem_toArray, List.getElem_cons_zero, List.getElem_cons_succ, Act.put, List.setIfInBounds_toArray, List.set_cons_zero, List.set_cons_succ]
      rw [← hR]
      exact R_of (lit := #[true, true, true, true, true, false, true, true, false, true, true, false, true, true, false, true, true, false, false, true, true, false, false, true, true, false, false, false]) (by kernel_rfl) (H_1_0_0 _ HL2)
    refine AllReadyH.cons (i := 17) rfl (fun K hK => ?_) ?_
    · go_simp
      have HL2 := HL.below (conv_below W x.path)
      try clear hHeld
      refine hK.out _ _ HL2.S (fun hHeld => ?_)
      clear hK K
      try simp only [List.getElem_toArray, List.getElem_cons_zero, List.getElem_cons_succ, Act.put, List.setIfInBounds_toArray, List.set_cons_zero, List.set_cons_succ]
      rw [← hR]
      exact R_of (lit := #[true, true, false, true, true, false, true, true, false, true, true, false, true, true, false, true, true, true, false, true, true, false, false, true, true, false, false, false]) (by kernel_rfl) (H_0_1_0 _ W.heap.size _ HL2 (Lib.hid (conv_rd W x.path)))
    refine AllReadyH.cons (i := 21) rfl (fun K hK => ?_) ?_
    · go_simp
      have HL2 := HL.below (conv_below W x.name)
      try clear hHeld
      refine hK.out _ _ HL2.S (fun hHeld => ?_)
      clear hK K
      try simp only [List.getElem_toArray, List.getElem_cons_zero, List.getElem_cons_succ, Act.put, List.setIfInBounds_toArray, List.set_cons_zero, List.set_cons_succ]
      rw [← hR]
      exact R_of (lit := #[true, true, false, true, true, false, true, true, false, true, true, false, true, true, false, true, true, false, false, true, true, true, false, true, true, false, false, false]) (by kernel_rfl) (H_0_0_1 _ W.heap.size _ HL2 (Lib.hid (conv_rd W x.name)))
    exact AllReadyH.nil
  exact R_of (by kernel_rfl) (H_0_0_0 _ HL1)

end Go.Proofs.YtnkhakomjklfmaaDoor
