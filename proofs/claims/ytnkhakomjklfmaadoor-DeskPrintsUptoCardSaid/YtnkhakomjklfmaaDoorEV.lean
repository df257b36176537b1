/- desk.event at the document's line. -/
import Derived.Test.YtnkhakomjklfmaaDoorU
import Derived.Test.YtnkhakomjklfmaaDoorLn
import Derived.Laws.CopyRow
import Derived.Laws.CopyOwn
import Derived.Lib.SlBuf
namespace Go.Proofs.YtnkhakomjklfmaaDoor
set_option linter.unusedVariables false
set_option linter.unusedSimpArgs false
open Go.RowKit Go.Sort

/-- Blocks that hold what they are said to hold. -/
structure HF (w : World) (F : List (Nat × Obj)) (wr : World) : Prop where
  hold : ∀ p ∈ F, wr.heap[p.1]? = some p.2
  chg : Below w.heap.size w wr
theorem HF.start (w : World) : HF w [] w := ⟨fun _ h => (List.not_mem_nil h).elim, Below.refl _ _⟩
theorem HF.below {w : World} {F : List (Nat × Obj)} {wr w1 : World} (h : HF w F wr) (hb : Below wr.heap.size wr w1) : HF w F w1 :=
  ⟨fun p hp => Below.at hb (h.hold p hp) (lt_of_heap (h.hold p hp)), h.chg.trans (hb.mono h.chg.size)⟩
theorem HF.drew {w : World} {F : List (Nat × Obj)} {wr : World} (h : HF w F wr) : HF w F wr.drew := h.below (Below.refl _ wr).drew
theorem HF.alloc {w : World} {F : List (Nat × Obj)} {wr : World} (h : HF w F wr) (o : Obj) : HF w ((wr.heap.size, o) :: F) (wr.alloc o) := by
  have h2 := h.below ((Below.refl _ wr).alloc (Nat.le_refl _) o)
  refine ⟨fun p hp => ?_, h2.chg⟩
  rcases List.mem_cons.1 hp with rfl | hp
  · exact heap_alloc_new wr o
  · exact h2.hold p hp
theorem HF.less {w : World} {F G : List (Nat × Obj)} {wr : World} (h : HF w F wr) (hG : ∀ p ∈ G, p ∈ F) : HF w G wr := ⟨fun p hp => h.hold p (hG p hp), h.chg⟩
theorem HF.at {w : World} {F : List (Nat × Obj)} {wr : World} (h : HF w F wr) {k : Nat} {o : Obj} (hp : (k, o) ∈ F) : wr.heap[k]? = some o := h.hold (k, o) hp
/-- A cell of a block is written. -/
theorem HF.set {w : World} {k : Nat} {arr arr' : Array Value} {t : TypeId} {F : List (Nat × Obj)} {wr : World} (h : HF w ((k, .cells arr t (0, 0)) :: F) wr) (hk : w.heap.size ≤ k) (hd : ∀ q ∈ F, q.1 ≠ k) (j : Nat) (v : Value) (ha : arr.setIfInBounds j v = arr') :
    HF w ((k, .cells arr' t (0, 0)) :: F) (wr.setCell ⟨k, j, none⟩ v) := by
  refine ⟨fun p hp => ?_, h.chg.setCell (by simpa using hk) _⟩
  rcases List.mem_cons.1 hp with rfl | hp
  · subst ha
    have := h.hold (k, .cells arr t (0, 0)) (List.mem_cons_self ..)
    simp only [World.setCell, Array.getElem?_modify, this, if_pos, Option.map_some, Option.isSome_none]
    rfl
  · rw [Below.heap_setCell _ _ _ _ (by simpa using hd p hp)]
    exact h.hold p (List.mem_cons_of_mem _ hp)
theorem HF.row {w : World} {k : Nat} {arr : Array Value} {t : TypeId} {F : List (Nat × Obj)} {wr : World} (h : HF w ((k, .cells arr t (0, 0)) :: F) wr) (hk : w.heap.size ≤ k) (hd : ∀ q ∈ F, q.1 ≠ k) (arr' : Array Value) :
    HF w ((k, .cells arr' t (0, 0)) :: F) (wr.setRow k arr') := by
  refine ⟨fun p hp => ?_, below_setRow h.chg hk _⟩
  rcases List.mem_cons.1 hp with rfl | hp
  · exact setRow_heap wr k arr arr' t (0, 0) (h.hold _ (List.mem_cons_self ..))
  · rw [setRow_other wr k p.1 arr' (hd p hp)]
    exact h.hold p (List.mem_cons_of_mem _ hp)

def exLine : ByteArray := ⟨#[50, 49, 32, 49, 32, 48, 32, 48, 32, 48, 32, 34, 34, 32, 34, 97, 34]⟩
def exWords : Array Value := #[.string ⟨#[50, 49]⟩, .string ⟨#[49]⟩, .string ⟨#[48]⟩, .string ⟨#[48]⟩, .string ⟨#[48]⟩, .string ⟨#[34, 34]⟩, .string ⟨#[34, 97, 34]⟩]
def exRow : Array Value := #[.string ⟨#[50, 49]⟩, .string ⟨#[49]⟩, .string ⟨#[48]⟩, .string ⟨#[48]⟩, .string ⟨#[48]⟩, .string ⟨#[34, 34]⟩, .string ⟨#[34, 97, 34]⟩, .string ⟨#[34, 34]⟩]
def exEv : Ev := ⟨21, 1, 0, 0, 0, ⟨#[]⟩, ⟨#[97]⟩, []⟩
def exBox : Nat → Array Value
  | 0 => #[.int .i64 0, .int .i64 0, .int .i64 0, .int .i64 0, .int .i64 0, .string ⟨#[]⟩, .string ⟨#[]⟩, .slice none 0 0]
  | 1 => #[.int .i64 21, .int .i64 0, .int .i64 0, .int .i64 0, .int .i64 0, .string ⟨#[]⟩, .string ⟨#[]⟩, .slice none 0 0]
  | _ => #[.int .i64 21, .int .i64 1, .int .i64 0, .int .i64 0, .int .i64 0, .string ⟨#[]⟩, .string ⟨#[]⟩, .slice none 0 0]
def exPtrs (B : Nat) : Array Value := #[.pointer (some ⟨B, 0, none⟩), .pointer (some ⟨B, 1, none⟩), .pointer (some ⟨B, 2, none⟩), .pointer (some ⟨B, 3, none⟩), .pointer (some ⟨B, 4, none⟩)]
theorem exSplit : Lib.countB exLine ⟨#[32]⟩ = 6 ∧ ((Lib.splitB ⟨#[32]⟩ 0 6 exLine).map Value.string).toArray = exWords := by
  constructor <;> kernel_rfl
theorem split_ex (s : ByteArray) (hs : s = exLine) (m : Int) (w : World) (hm : w.cell? ⟨0, 0, none⟩ = some (.int .i64 m)) :
    Calls Tryd.prog 36 #[.string s, .string ⟨#[32]⟩] w fun e w' => e = .returned (.slice (some ⟨w.heap.size, 0, none⟩) 7 7) ∧ w' = w.alloc (.cells exWords 9) := by
  subst hs
  have h := Tryd.strings_Split exLine ⟨#[32]⟩ m w (by decide) hm (by decide)
  rw [exSplit.1, exSplit.2] at h
  exact h
theorem perm3 {a b c : Nat × Obj} {p : Nat × Obj} (h : p ∈ [b, c, a]) : p ∈ [a, b, c] := by
  simp only [List.mem_cons, List.mem_nil_iff, or_false] at h ⊢
  rcases h with h | h | h
  · exact .inr (.inl h)
  · exact .inr (.inr h)
  · exact .inl h
/-- A row without bytes as a string, wherever it lies. -/
theorem conv_nil (W : World) : (convert 33 9 (.slice none 0 0)).run Tryd.prog W = .ok (.string ⟨#[]⟩) W := by kernel_rfl
theorem unq_none (W : World) : Calls Tryd.prog 11 #[.string ⟨#[34, 34]⟩] W fun e w' => (∃ A c, e = .returned (.tuple #[.slice A 0 c, .int .i64 0]) ∧ ∀ V, (convert 33 9 (.slice A 0 c)).run Tryd.prog V = .ok (.string ⟨#[]⟩) V) ∧ Below W.heap.size W w' := by
  refine (unquote_any [] W (by decide)).mono ?_
  rintro e w' ⟨hb, h | ⟨r, v, hr, he, ho⟩⟩
  · exact absurd h.1 (by simp [unqL])
  · obtain rfl : r = [] := by simpa [unqL] using hr.symm
    refine ⟨?_, hb⟩
    rcases id ho.2 with ⟨rfl, _⟩ | ⟨g, cap, cur, rfl, _⟩
    · exact ⟨none, 0, he, conv_nil⟩
    · exact ⟨some ⟨g, 0, none⟩, cap, he, fun V => conv_row (bs := []) rfl (fun j u hj => by simp [Lib.byteCells] at hj)⟩
theorem unq_a (W : World) : Calls Tryd.prog 11 #[.string ⟨#[34, 97, 34]⟩] W fun e w' => (∃ g c, e = .returned (.tuple #[.slice (some ⟨g, 0, none⟩) 1 c, .int .i64 0]) ∧ g < w'.heap.size ∧ ∀ j u, (Lib.byteCells [97])[j]? = some u → w'.cell? ((⟨g, 0, none⟩ : Addr).add j) = some u) ∧ Below W.heap.size W w' := by
  refine (unquote_any [97] W (by decide)).mono ?_
  rintro e w' ⟨hb, h | ⟨r, v, hr, he, ho⟩⟩
  · exact absurd h.1 (by decide)
  · obtain rfl : r = [97] := by
      have : unqL [97] = some [97] := by decide
      rw [this] at hr
      exact (Option.some.inj hr).symm
    obtain ⟨g, cap, rfl, hg, hc⟩ := own_slice ho (by simp)
    exact ⟨⟨g, cap, he, hg, hc⟩, hb⟩
theorem exLine_eq : strA exEv.line = exLine := by
  have i0 : Lib.itoa 0 = [48] := by rw [Lib.itoa, if_neg (by omega), show (0 : Int).toNat = 0 from rfl, Lib.decDigits]; rfl
  have i1 : Lib.itoa 1 = [49] := by rw [Lib.itoa, if_neg (by omega), show (1 : Int).toNat = 1 from rfl, Lib.decDigits]; rfl
  have i21 : Lib.itoa 21 = [50, 49] := by rw [Lib.itoa, if_neg (by omega), show (21 : Int).toNat = 21 from rfl, Lib.decDigits, dif_neg (by decide), show 21 / 10 = 2 from rfl, Lib.decDigits]; rfl
  have e : exEv.wl = [[50, 49], [49], [48], [48], [48], [34, 34], [34, 97, 34], [34, 34]] := by
    simp only [Ev.wl, exEv, i0, i1, i21]; rfl
  have n : Ev.none.wl = [[48], [48], [48], [48], [48], [34, 34], [34, 34], [34, 34]] := by
    simp only [Ev.wl, Ev.none, i0]; rfl
  rw [Ev.line, e, n]
  decide +kernel
set_option maxRecDepth 100000 in
theorem ev_ret {A : Option Addr} {c : Nat} {W : World} {N : Nat} (t : Array Value) (ht : t[2]? = some (.pointer (some ⟨N, 0, none⟩))) (ht3 : t[3]? = some (.bool true)) (h : W.heap[N]? = some (.cells (exEv.cells A c) 37 (0, 0))) :
    (results Tryd.f22 t).run Tryd.prog W = .ok (.tuple #[.agg (exEv.cells A c), .bool true]) W := by
  have d0 := (Lib.cell_of_heap h 0).trans (show (exEv.cells A c)[0]? = some (.int .i64 21) from rfl)
  have d1 := (Lib.cell_of_heap h 1).trans (show (exEv.cells A c)[1]? = some (.int .i64 1) from rfl)
  have d2 := (Lib.cell_of_heap h 2).trans (show (exEv.cells A c)[2]? = some (.int .i64 0) from rfl)
  have d3 := (Lib.cell_of_heap h 3).trans (show (exEv.cells A c)[3]? = some (.int .i64 0) from rfl)
  have d4 := (Lib.cell_of_heap h 4).trans (show (exEv.cells A c)[4]? = some (.int .i64 0) from rfl)
  have d5 := (Lib.cell_of_heap h 5).trans (show (exEv.cells A c)[5]? = some (.string ⟨#[]⟩) from rfl)
  have d6 := (Lib.cell_of_heap h 6).trans (show (exEv.cells A c)[6]? = some (.string ⟨#[97]⟩) from rfl)
  have d7 := (Lib.cell_of_heap h 7).trans (show (exEv.cells A c)[7]? = some (.slice A 0 c) from rfl)
  show _ = Result.ok (Value.tuple #[.agg #[.int .i64 21, .int .i64 1, .int .i64 0, .int .i64 0, .int .i64 0, .string ⟨#[]⟩, .string ⟨#[97]⟩, .slice A 0 c], .bool true]) W
  simp [results, Tryd.results22, go_sem, ht, ht3, d0, d1, d2, d3, d4, d5, d6, d7]
theorem ex_S {A7 : Option Addr} {c7 : Nat} {V : World} {B : Nat} (hb : V.heap[B]? = some (.cells (exEv.cells A7 c7) 37 (0, 0))) : V.cell? ⟨B, 0, none⟩ = some (.int .i64 21) ∧ V.cell? ⟨B, 1, none⟩ = some (.int .i64 1) ∧ V.cell? ⟨B, 2, none⟩ = some (.int .i64 0) ∧ V.cell? ⟨B, 3, none⟩ = some (.int .i64 0) ∧ V.cell? ⟨B, 4, none⟩ = some (.int .i64 0) ∧ V.cell? ⟨B, 5, none⟩ = some (.string ⟨#[]⟩) ∧ V.cell? ⟨B, 6, none⟩ = some (.string ⟨#[97]⟩) ∧ V.cell? ⟨B, 7, none⟩ = some (.slice A7 0 c7) := by
  refine ⟨?_, ?_, ?_, ?_, ?_, ?_, ?_, ?_⟩ <;> (rw [Lib.cell_of_heap hb]; rfl)
theorem exEv_ok : exEv.ok := by
  refine ⟨?_, ?_, ?_, ?_, ?_, ?_, ?_, ?_⟩ <;> simp [exEv, inI64, ByteArray.size]

set_option maxHeartbeats 4000000 in
set_option maxRecDepth 100000 in
theorem event_ex (m : Int) (w : World) (ht : Tab w) (hB : 8 ≤ w.heap.size) (hm : w.cell? ⟨0, 0, none⟩ = some (.int .i64 m)) :
    Calls Tryd.prog 22 #[.string exLine] w fun e w' => (∃ A c, e = .returned (.tuple #[.agg (exEv.cells A c), .bool true])) ∧ Below w.heap.size w w' := by
  obtain ⟨s, hs⟩ : ∃ s, s = exLine := ⟨_, rfl⟩
  rw [← hs]
  have HSE := Lib.hid hs
  clear hs
  go_enter Tryd.func22, Tryd.ntmps22
  go_wp2_with fail
  have H1 := (HF.start w).alloc (.cells (exBox 0) 37)
  generalize hR : w.heap.size = R at H1 ⊢
  have hRle : w.heap.size ≤ R := by omega
  clear hR
  unfold exBox at H1
  generalize w.alloc _ = W1 at H1 ⊢
  change HF w [(R, .cells (exBox 0) 37)] W1 at H1
  refine (words_any Ev.none Ev.none_ok none 0 W1 (ht.below H1.chg hB) (Nat.le_trans hB H1.chg.size) (fun j c h => by cases h)).mono ?_
  rintro e w2 ⟨rfl, hb2⟩
  have H2 := H1.below hb2
  clear H1 hb2
  have H3 := H2.alloc (.cells Ev.none.words 66)
  have hN := H2.chg.size
  have hRN : R < w2.heap.size := lt_of_heap (H2.at (List.mem_cons_self ..))
  unfold Ev.words at H3 ⊢
  go_wp2_with fail
  clear H2
  generalize w2.heap.size = N at H3 hN hRN ⊢
  generalize w2.alloc _ = W2 at H3 ⊢
  change HF w [(N, .cells Ev.none.words 66), (R, .cells (exBox 0) 37)] W2 at H3
  refine (split_ex s HSE.out m W2 (by rw [H3.chg.cell (by simp; omega)]; exact hm)).mono ?_
  rintro e w3 ⟨rfl, rfl⟩
  have H4 := H3.alloc (.cells exWords 9)
  have hMN : N < W2.heap.size := lt_of_heap (H3.at (List.mem_cons_self ..))
  clear H3
  generalize W2.heap.size = M at H4 hMN ⊢
  generalize W2.alloc _ = W3 at H4 ⊢
  have H5 : HF w [(N, .cells Ev.none.words 66), (R, .cells (exBox 0) 37), (M, .cells exWords 9)] W3 := H4.less (fun p hp => perm3 hp)
  have hcp := run_copy_row (P := Tryd.prog) W3 48 48 3 9 N 0 8 8 ⟨M, 0, none⟩ 7 7 Ev.none.words 66 exWords.toList (by kernel_rfl) (by kernel_rfl) (H5.at (List.mem_cons_self ..)) (by kernel_rfl) (by
    intro j v hj
    rw [show ((⟨M, 0, none⟩ : Addr).add j) = ⟨M, j, none⟩ by unfold Addr.add; split <;> simp_all, Lib.cell_of_heap (H4.at (List.mem_cons_self ..))]
    simpa using hj) (by decide) (by
    intro v hv
    simp [exWords] at hv
    rcases hv with rfl | rfl | rfl | rfl | rfl <;> rfl)
  clear H4
  have H6 := H5.row hN (fun q hq => by
    simp only [List.mem_cons, List.mem_nil_iff, or_false] at hq
    rcases hq with rfl | rfl
    · simp; omega
    · simp; omega) exRow
  clear H5
  replace hcp : (Builtin.copy_ #[48, 48] 3 #[.slice (some ⟨N, 0, none⟩) 8 8, .slice (some ⟨M, 0, none⟩) 7 7]).run Tryd.prog W3 = .ok (.int .i64 7) (W3.setRow N exRow) := hcp
  generalize W3.setRow N exRow = W4 at hcp H6
  go_wp2_with fail
  have H8 := (H6.alloc (.cells (exBox 0) 37)).alloc (.cells (exPtrs W4.heap.size) 72)
  have hM6 : M < W4.heap.size := lt_of_heap (H6.at (List.mem_cons_of_mem _ (List.mem_cons_of_mem _ (List.mem_cons_self ..))))
  have hwb : w.heap.size ≤ W4.heap.size := H6.chg.size
  have hsz : (W4.alloc (.cells (exBox 0) 37)).heap.size = W4.heap.size + 1 := by simp
  rw [hsz] at H8
  change Code.wp _ _ _ _ ((W4.alloc (.cells (exBox 0) 37)).alloc (.cells (exPtrs W4.heap.size) 72))
  clear hcp hsz H6
  generalize W4.heap.size = B at H8 hM6 hwb ⊢
  generalize (W4.alloc (.cells (exBox 0) 37)).alloc (.cells (exPtrs B) 72) = W5 at H8 ⊢
  clear W4 W3 W2 W1
  have H9 : HF w [(B, .cells (exBox 0) 37), (N, .cells exRow 66), (R, .cells (exBox 0) 37), (B + 1, .cells (exPtrs B) 72)] W5 := H8.less (fun p hp => by
    simp only [List.mem_cons, List.mem_nil_iff, or_false] at hp ⊢
    rcases hp with h | h | h | h <;> simp [h])
  clear H8
  have hdis : ∀ q ∈ [((N, .cells exRow 66) : Nat × Obj), (R, .cells (exBox 0) 37), (B + 1, .cells (exPtrs B) 72)], q.1 ≠ B := fun q hq => by
    simp only [List.mem_cons, List.mem_nil_iff, or_false] at hq
    rcases hq with rfl | rfl | rfl
    · simp; omega
    · simp; omega
    · simp
  have HD := Lib.hid hdis
  clear hdis
  go_loopw [35] (fun i wr => ∃ j : Nat, j ≤ 5 ∧ i = .int .i64 j ∧ HF w [(B, .cells (exBox j) 37), (N, .cells exRow 66), (R, .cells (exBox 0) 37), (B + 1, .cells (exPtrs B) 72)] wr) (fun i _ => 5 - (intOf i).toNat)
  case atStart => exact ⟨0, Nat.zero_le _, rfl, H9⟩
  case round =>
    clear H9
    obtain ⟨j, hj, rfl, HJ⟩ := hrel
    by_cases hj5 : j < 5
    · have hcp : wr.cell? ⟨B + 1, j, none⟩ = some (.pointer (some ⟨B, j, none⟩)) := by
        rw [Lib.cell_of_heap (HJ.at (List.mem_cons_of_mem _ (List.mem_cons_of_mem _ (List.mem_cons_of_mem _ (List.mem_cons_self ..)))))]
        have : j = 0 ∨ j = 1 ∨ j = 2 ∨ j = 3 ∨ j = 4 := by omega
        rcases this with rfl | rfl | rfl | rfl | rfl <;> rfl
      obtain ⟨t, n, htw, hta, hts, hbx⟩ : ∃ t n, exRow[j]? = some (.string t) ∧ Lib.atoi t.data.toList = some n ∧ t.size ≤ 18 ∧ (exBox j).setIfInBounds j (.int .i64 n) = exBox (j + 1) := by
        have : j = 0 ∨ j = 1 ∨ j = 2 ∨ j = 3 ∨ j = 4 := by omega
        rcases this with rfl | rfl | rfl | rfl | rfl
        · exact ⟨⟨#[50, 49]⟩, 21, rfl, by decide +kernel, by decide, rfl⟩
        · exact ⟨⟨#[49]⟩, 1, rfl, by decide +kernel, by decide, rfl⟩
        · exact ⟨⟨#[48]⟩, 0, rfl, by decide +kernel, by decide, rfl⟩
        · exact ⟨⟨#[48]⟩, 0, rfl, by decide +kernel, by decide, rfl⟩
        · exact ⟨⟨#[48]⟩, 0, rfl, by decide +kernel, by decide, rfl⟩
      have hcw : wr.cell? ⟨N, j, none⟩ = some (.string t) := by
        rw [Lib.cell_of_heap (HJ.at (List.mem_cons_of_mem _ (List.mem_cons_self ..)))]
        exact htw
      have hjj : (j : Int) < 5 := by omega
      have hj8 : (j : Int) < 8 := by omega
      have HBX := Lib.hid hbx
      clear htw hbx
      go_wp2_with fail
      refine (Tryd.strconv_Atoi t n hts hta wr).mono ?_
      rintro e w6 ⟨rfl, t6, rfl⟩
      have HJ2 := HJ.below (conv_below wr t6)
      have hcb : ∃ v, (Lib.bytesWorld wr 5 t6).cell? ⟨B, j, none⟩ = some v := by
        rw [Lib.cell_of_heap (HJ2.at (List.mem_cons_self ..))]
        have : j = 0 ∨ j = 1 ∨ j = 2 ∨ j = 3 ∨ j = 4 := by omega
        rcases this with rfl | rfl | rfl | rfl | rfl <;> exact ⟨_, rfl⟩
      obtain ⟨v6, hcb⟩ := hcb
      have hfb : (Lib.bytesWorld wr 5 t6).frozen? ⟨B, j, none⟩ = false := Lib.frozen_of_heap (HJ2.at (List.mem_cons_self ..)) _
      have HN := HJ2.set hwb HD.out j (.int .i64 n) HBX.out
      clear HJ HJ2 hcp hcw hta hts
      go_wp2_with fail
      go_roundw
      case rel => exact ⟨j + 1, by omega, by go_num, HN⟩
      case measure => simp [intOf]; omega
    · obtain rfl : j = 5 := by omega
      rw [show ((5 : Nat) : Int) = 5 from rfl]
      have hw5 : wr.cell? ⟨N, 5, none⟩ = some (.string ⟨#[34, 34]⟩) := by
        rw [Lib.cell_of_heap (HJ.at (List.mem_cons_of_mem _ (List.mem_cons_self ..)))]; rfl
      go_wp2_with fail
      refine (unq_none wr).mono ?_
      rintro e x1 ⟨⟨A5, c5, rfl, hv5⟩, hb⟩
      have HJ1 := HJ.below hb
      clear HJ hb hw5
      have hw6 : x1.cell? ⟨N, 6, none⟩ = some (.string ⟨#[34, 97, 34]⟩) := by
        rw [Lib.cell_of_heap (HJ1.at (List.mem_cons_of_mem _ (List.mem_cons_self ..)))]; rfl
      go_wp2_with fail
      refine (unq_a x1).mono ?_
      rintro e x2 ⟨⟨g6, c6, rfl, hg6, hc6⟩, hb⟩
      have HJ2 := HJ1.below hb
      clear HJ1 hb hw6
      have HC6 := Lib.hid hc6
      clear hc6
      have hw7 : x2.cell? ⟨N, 7, none⟩ = some (.string ⟨#[34, 34]⟩) := by
        rw [Lib.cell_of_heap (HJ2.at (List.mem_cons_of_mem _ (List.mem_cons_self ..)))]; rfl
      go_wp2_with fail
      refine (unq_none x2).mono ?_
      rintro e x3 ⟨⟨A7, c7, rfl, hv7⟩, hb⟩
      have HJ3 := HJ2.below hb
      have hv6 := conv_row (W := x3) (g := g6) (n := 1) (cap := c6) (bs := [97]) rfl (fun j u hj => by
        have := HC6.out j u hj
        rw [hb.cell (by rw [addr_add_block]; exact hg6)]; exact this)
      clear HJ2 hb hw7 hg6 HC6 hv7
      replace hv6 : (convert 33 9 (.slice (some ⟨g6, 0, none⟩) 1 c6)).run Tryd.prog x3 = .ok (.string ⟨#[97]⟩) x3 := hv6
      replace hv5 := hv5 x3
      have f0 := fun k => Lib.frozen_of_heap (HJ3.at (List.mem_cons_self ..)) k
      have f5 := f0 5
      have f6 := f0 6
      have f7 := f0 7
      have d5 := (Lib.cell_of_heap (HJ3.at (List.mem_cons_self ..)) 5).trans (show (exBox 5)[5]? = some (.string ⟨#[]⟩) from rfl)
      have d6 := (Lib.cell_of_heap (HJ3.at (List.mem_cons_self ..)) 6).trans (show (exBox 5)[6]? = some (.string ⟨#[]⟩) from rfl)
      have d7 := (Lib.cell_of_heap (HJ3.at (List.mem_cons_self ..)) 7).trans (show (exBox 5)[7]? = some (.slice none 0 0) from rfl)
      clear f0
      have HK := ((HJ3.set hwb HD.out 5 (.string ⟨#[]⟩) rfl).set hwb HD.out 6 (.string ⟨#[97]⟩) rfl).set hwb HD.out 7 (.slice A7 0 c7) rfl
      clear HJ3
      go_wp2_with fail
      change HF w [(B, .cells (exEv.cells A7 c7) 37), (N, .cells exRow 66), (R, .cells (exBox 0) 37), (B + 1, .cells (exPtrs B) 72)] _ at HK
      generalize ((x3.setCell _ _).setCell _ _).setCell _ _ = W6 at HK ⊢
      have HK2 := HK.drew
      clear HK hv6 hv5 f5 f6 f7 d5 d6 d7
      refine wp_region_held_drew (S := fun w' => w'.cell? ⟨B, 0, none⟩ = some (.int .i64 21) ∧ w'.cell? ⟨B, 1, none⟩ = some (.int .i64 1) ∧ w'.cell? ⟨B, 2, none⟩ = some (.int .i64 0) ∧ w'.cell? ⟨B, 3, none⟩ = some (.int .i64 0) ∧ w'.cell? ⟨B, 4, none⟩ = some (.int .i64 0) ∧ w'.cell? ⟨B, 5, none⟩ = some (.string ⟨#[]⟩) ∧ w'.cell? ⟨B, 6, none⟩ = some (.string ⟨#[97]⟩) ∧ w'.cell? ⟨B, 7, none⟩ = some (.slice A7 0 c7)) (by kernel_rfl) (ex_S (HK2.at (List.mem_cons_self ..))) (fun hHeld => ?_)
      refine wpAnyH_take (i := 0) (v := ?_) rfl (by kernel_rfl) (by kernel_rfl) (by kernel_rfl) (fun _ _ _ h => h) (Or.inl ⟨by rfl, ?_⟩) (by assumption) ?_
      rotate_left
      · intro w hSw; (try dsimp only at hSw); go_simp; try with_reducible rfl
      try simp only [List.getElem_toArray, List.getElem_cons_zero, List.getElem_cons_succ, Act.put, List.setIfInBounds_toArray, List.set_cons_zero, List.set_cons_succ]
      refine wpAnyH_take (i := 1) (v := ?_) rfl (by kernel_rfl) (by kernel_rfl) (by kernel_rfl) (fun _ _ _ h => h) (Or.inl ⟨by rfl, ?_⟩) (by assumption) ?_
      rotate_left
      · intro w hSw; (try dsimp only at hSw); go_simp; try with_reducible rfl
      try simp only [List.getElem_toArray, List.getElem_cons_zero, List.getElem_cons_succ, Act.put, List.setIfInBounds_toArray, List.set_cons_zero, List.set_cons_succ]
      refine wpAnyH_take (i := 2) (v := ?_) rfl (by kernel_rfl) (by kernel_rfl) (by kernel_rfl) (fun _ _ _ h => h) (Or.inl ⟨by rfl, ?_⟩) (by assumption) ?_
      rotate_left
      · intro w hSw; (try dsimp only at hSw); go_simp; try with_reducible rfl
      try simp only [List.getElem_toArray, List.getElem_cons_zero, List.getElem_cons_succ, Act.put, List.setIfInBounds_toArray, List.set_cons_zero, List.set_cons_succ]
      refine wpAnyH_take (i := 3) (v := ?_) rfl (by kernel_rfl) (by kernel_rfl) (by kernel_rfl) (fun _ _ _ h => h) (Or.inl ⟨by rfl, ?_⟩) (by assumption) ?_
      rotate_left
      · intro w hSw; (try dsimp only at hSw); go_simp; try with_reducible rfl
      try simp only [List.getElem_toArray, List.getElem_cons_zero, List.getElem_cons_succ, Act.put, List.setIfInBounds_toArray, List.set_cons_zero, List.set_cons_succ]
      refine wpAnyH_take (i := 4) (v := ?_) rfl (by kernel_rfl) (by kernel_rfl) (by kernel_rfl) (fun _ _ _ h => h) (Or.inl ⟨by rfl, ?_⟩) (by assumption) ?_
      rotate_left
      · intro w hSw; (try dsimp only at hSw); go_simp; try with_reducible rfl
      try simp only [List.getElem_toArray, List.getElem_cons_zero, List.getElem_cons_succ, Act.put, List.setIfInBounds_toArray, List.set_cons_zero, List.set_cons_succ]
      refine wpAnyH_take (i := 5) (v := ?_) rfl (by kernel_rfl) (by kernel_rfl) (by kernel_rfl) (fun _ _ _ h => h) (Or.inl ⟨by rfl, ?_⟩) (by assumption) ?_
      rotate_left
      · intro w hSw; (try dsimp only at hSw); go_simp; try with_reducible rfl
      try simp only [List.getElem_toArray, List.getElem_cons_zero, List.getElem_cons_succ, Act.put, List.setIfInBounds_toArray, List.set_cons_zero, List.set_cons_succ]
      refine wpAnyH_take (i := 6) (v := ?_) rfl (by kernel_rfl) (by kernel_rfl) (by kernel_rfl) (fun _ _ _ h => h) (Or.inl ⟨by rfl, ?_⟩) (by assumption) ?_
      rotate_left
      · intro w hSw; (try dsimp only at hSw); go_simp; try with_reducible rfl
      try simp only [List.getElem_toArray, List.getElem_cons_zero, List.getElem_cons_succ, Act.put, List.setIfInBounds_toArray, List.set_cons_zero, List.set_cons_succ]
      refine wpAnyH_take (i := 7) (v := ?_) rfl (by kernel_rfl) (by kernel_rfl) (by kernel_rfl) (fun _ _ _ h => h) (Or.inl ⟨by rfl, ?_⟩) (by assumption) ?_
      rotate_left
      · intro w hSw; (try dsimp only at hSw); go_simp; try with_reducible rfl
      try simp only [List.getElem_toArray, List.getElem_cons_zero, List.getElem_cons_succ, Act.put, List.setIfInBounds_toArray, List.set_cons_zero, List.set_cons_succ]
      refine wpAnyH_take (i := 8) (v := ?_) rfl (by kernel_rfl) (by kernel_rfl) (by kernel_rfl) (fun _ _ _ h => h) (Or.inl ⟨by rfl, ?_⟩) (by assumption) ?_
      rotate_left
      · intro w hSw; (try dsimp only at hSw); go_simp; try with_reducible rfl
      try simp only [List.getElem_toArray, List.getElem_cons_zero, List.getElem_cons_succ, Act.put, List.setIfInBounds_toArray, List.set_cons_zero, List.set_cons_succ]
      refine wpAnyH_take (i := 9) (v := ?_) rfl (by kernel_rfl) (by kernel_rfl) (by kernel_rfl) (fun _ _ _ h => h) (Or.inl ⟨by rfl, ?_⟩) (by assumption) ?_
      rotate_left
      · intro w hSw; (try dsimp only at hSw); go_simp; try with_reducible rfl
      try simp only [List.getElem_toArray, List.getElem_cons_zero, List.getElem_cons_succ, Act.put, List.setIfInBounds_toArray, List.set_cons_zero, List.set_cons_succ]
      refine wpAnyH_take (i := 10) (v := ?_) rfl (by kernel_rfl) (by kernel_rfl) (by kernel_rfl) (fun _ _ _ h => h) (Or.inl ⟨by rfl, ?_⟩) (by assumption) ?_
      rotate_left
      · intro w hSw; (try dsimp only at hSw); go_simp; try with_reducible rfl
      try simp only [List.getElem_toArray, List.getElem_cons_zero, List.getElem_cons_succ, Act.put, List.setIfInBounds_toArray, List.set_cons_zero, List.set_cons_succ]
      refine wpAnyH_take (i := 11) (v := ?_) rfl (by kernel_rfl) (by kernel_rfl) (by kernel_rfl) (fun _ _ _ h => h) (Or.inl ⟨by rfl, ?_⟩) (by assumption) ?_
      rotate_left
      · intro w hSw; (try dsimp only at hSw); go_simp; try with_reducible rfl
      try simp only [List.getElem_toArray, List.getElem_cons_zero, List.getElem_cons_succ, Act.put, List.setIfInBounds_toArray, List.set_cons_zero, List.set_cons_succ]
      refine wpAnyH_take (i := 12) (v := ?_) rfl (by kernel_rfl) (by kernel_rfl) (by kernel_rfl) (fun _ _ _ h => h) (Or.inl ⟨by rfl, ?_⟩) (by assumption) ?_
      rotate_left
      · intro w hSw; (try dsimp only at hSw); go_simp; try with_reducible rfl
      try simp only [List.getElem_toArray, List.getElem_cons_zero, List.getElem_cons_succ, Act.put, List.setIfInBounds_toArray, List.set_cons_zero, List.set_cons_succ]
      refine wpAnyH_take (i := 14) (v := ?_) rfl (by kernel_rfl) (by kernel_rfl) (by kernel_rfl) (fun _ _ _ h => h) (Or.inl ⟨by rfl, ?_⟩) (by assumption) ?_
      rotate_left
      · intro w hSw; (try dsimp only at hSw); go_simp; try with_reducible rfl
      try simp only [List.getElem_toArray, List.getElem_cons_zero, List.getElem_cons_succ, Act.put, List.setIfInBounds_toArray, List.set_cons_zero, List.set_cons_succ]
      refine wpAnyH_ready (rs := [13]) (by kernel_rfl) (by simp) ?_
      refine AllReadyH.cons (i := 13) rfl (fun K hK => ?_) ?_
      · go_simp
        refine (line_any exEv exEv_ok A7 c7 _ (ht.below HK2.chg hB) (Nat.le_trans hB HK2.chg.size) (fun j c h => by simp [exEv] at h)).mono ?_
        rintro e x4 ⟨rfl, hb⟩
        have HK3 := HK2.below hb
        clear HK2 hb
        rw [exLine_eq, ← HSE.out]
        try go_simp
        try clear hHeld
        refine hK.out _ _ (ex_S (HK3.at (List.mem_cons_self ..))) (fun hHeld => ?_)
        clear hK K
        try simp only [List.getElem_toArray, List.getElem_cons_zero, List.getElem_cons_succ, Act.put, List.setIfInBounds_toArray, List.set_cons_zero, List.set_cons_succ]
        refine wpAnyH_take (i := 15) (v := ?_) rfl (by kernel_rfl) (by kernel_rfl) (by kernel_rfl) (fun _ _ _ h => h) (Or.inl ⟨by rfl, ?_⟩) (by assumption) ?_
        rotate_left
        · intro w hSw; (try dsimp only at hSw); go_simp; try with_reducible rfl
        try simp only [List.getElem_toArray, List.getElem_cons_zero, List.getElem_cons_succ, Act.put, List.setIfInBounds_toArray, List.set_cons_zero, List.set_cons_succ]
        refine wpAnyH_take (i := 16) (v := ?_) rfl (by kernel_rfl) (by kernel_rfl) (by kernel_rfl) (fun _ _ _ h => h) (Or.inl ⟨by rfl, ?_⟩) (by assumption) ?_
        rotate_left
        · intro w hSw; (try dsimp only at hSw); go_simp; try with_reducible rfl
        try simp only [List.getElem_toArray, List.getElem_cons_zero, List.getElem_cons_succ, Act.put, List.setIfInBounds_toArray, List.set_cons_zero, List.set_cons_succ]
        refine wpAnyH_ready (rs := [17]) (by kernel_rfl) (by simp) ?_
        refine AllReadyH.cons (i := 17) rfl (fun K hK => ?_) ?_
        · have HR := HK3.less (G := [(R, .cells (exBox 0) 37), (B, .cells (exEv.cells A7 c7) 37)]) (fun p hp => by
            simp only [List.mem_cons, List.mem_nil_iff, or_false] at hp ⊢
            rcases hp with h | h <;> simp [h])
          have hbR : ∀ q ∈ [((B, .cells (exEv.cells A7 c7) 37) : Nat × Obj)], q.1 ≠ R := fun q hq => by
            simp only [List.mem_cons, List.mem_nil_iff, or_false] at hq
            subst hq
            simp
            omega
          have hR0 := HR.at (List.mem_cons_self ..)
          have e0 := (Lib.cell_of_heap hR0 0).trans (show (exBox 0)[0]? = some (.int .i64 0) from rfl)
          have g0 := Lib.frozen_of_heap hR0 0
          have e1 := (Lib.cell_of_heap hR0 1).trans (show (exBox 0)[1]? = some (.int .i64 0) from rfl)
          have g1 := Lib.frozen_of_heap hR0 1
          have e2 := (Lib.cell_of_heap hR0 2).trans (show (exBox 0)[2]? = some (.int .i64 0) from rfl)
          have g2 := Lib.frozen_of_heap hR0 2
          have e3 := (Lib.cell_of_heap hR0 3).trans (show (exBox 0)[3]? = some (.int .i64 0) from rfl)
          have g3 := Lib.frozen_of_heap hR0 3
          have e4 := (Lib.cell_of_heap hR0 4).trans (show (exBox 0)[4]? = some (.int .i64 0) from rfl)
          have g4 := Lib.frozen_of_heap hR0 4
          have e5 := (Lib.cell_of_heap hR0 5).trans (show (exBox 0)[5]? = some (.string ⟨#[]⟩) from rfl)
          have g5 := Lib.frozen_of_heap hR0 5
          have e6 := (Lib.cell_of_heap hR0 6).trans (show (exBox 0)[6]? = some (.string ⟨#[]⟩) from rfl)
          have g6 := Lib.frozen_of_heap hR0 6
          have e7 := (Lib.cell_of_heap hR0 7).trans (show (exBox 0)[7]? = some (.slice none 0 0) from rfl)
          have g7 := Lib.frozen_of_heap hR0 7
          have HT := (((((((HR.set hRle hbR 0 (.int .i64 21) rfl).set hRle hbR 1 (.int .i64 1) rfl).set hRle hbR 2 (.int .i64 0) rfl).set hRle hbR 3 (.int .i64 0) rfl).set hRle hbR 4 (.int .i64 0) rfl).set hRle hbR 5 (.string ⟨#[]⟩) rfl).set hRle hbR 6 (.string ⟨#[97]⟩) rfl).set hRle hbR 7 (.slice A7 0 c7) rfl
          have HTB := ex_S (HT.at (List.mem_cons_of_mem _ (List.mem_cons_self ..)))
          have HTR := HT.at (List.mem_cons_self ..)
          have HTC := Lib.hid HT.chg
          clear HT HK3 hR0 HR
          go_simp
          try clear hHeld
          refine hK.out _ _ HTB (fun hHeld => ?_)
          clear hK K
          try simp only [List.getElem_toArray, List.getElem_cons_zero, List.getElem_cons_succ, Act.put, List.setIfInBounds_toArray, List.set_cons_zero, List.set_cons_succ]
          refine wpAnyH_ready (rs := [18]) (by kernel_rfl) (by simp) ?_
          refine AllReadyH.cons (i := 18) rfl (fun K hK => ?_) ?_
          · go_simp
            try clear hHeld
            refine hK.out _ _ HTB (fun hHeld => ?_)
            clear hK K
            try simp only [List.getElem_toArray, List.getElem_cons_zero, List.getElem_cons_succ, Act.put, List.setIfInBounds_toArray, List.set_cons_zero, List.set_cons_succ]
            refine wpAnyH_done (by kernel_rfl) ?_ _
            clear HTB hHeld e0 e1 e2 e3 e4 e5 e6 e7 g0 g1 g2 g3 g4 g5 g6 g7
            go_wp2_with fail
            exact bodyPost_ret (v := .tuple #[.agg (exEv.cells A7 c7), .bool true]) (ev_ret _ rfl rfl HTR) rfl ⟨⟨A7, c7, rfl⟩, HTC.out⟩
          exact AllReadyH.nil
        exact AllReadyH.nil
      exact AllReadyH.nil
end Go.Proofs.YtnkhakomjklfmaaDoor
