/- A builder of the call's own beside blocks that must stay: what writing and reading it come to. -/
import Derived.Test.YtnkhakomjklfmaaDoorPr
namespace Go.Proofs.YtnkhakomjklfmaaDoor
set_option linter.unusedVariables false
set_option linter.unusedSimpArgs false
open Go.RowKit Go.Sort PDeskPrints YtnkhakomjklfmaaDoorW.PrintWords

/-- The call's first block is a builder that holds c; the blocks of F hold what F says. -/
structure BS (w : World) (c : List UInt8) (F : List (Nat × Obj)) (wr : World) : Prop where
  bld : ∃ own, Bld w.heap.size own (Lib.byteCells c) wr ∧ (own = none ∨ ∃ g, own = some g ∧ w.heap.size < g) ∧ ∀ p ∈ F, own ≠ some p.1
  hold : ∀ p ∈ F, wr.heap[p.1]? = some p.2 ∧ p.1 ≠ w.heap.size
  chg : Below w.heap.size w wr

theorem BS.start (w : World) : BS w [] [] (w.alloc (.cells #[.pointer none, .slice none 0 0] 41)) :=
  ⟨⟨none, Bld.fresh w, .inl rfl, fun _ _ h => by cases h⟩, fun _ h => (List.not_mem_nil h).elim, (Below.refl _ w).alloc (Nat.le_refl _) _⟩
theorem BS.below {w : World} {c : List UInt8} {F : List (Nat × Obj)} {wr w1 : World} (h : BS w c F wr) (hb : Below wr.heap.size wr w1) : BS w c F w1 := by
  obtain ⟨⟨own, hB, ho, hF⟩, hh, hc⟩ := h
  exact ⟨⟨own, hB.chg (S := fun _ => False) (Chg.ofBelow hb) (fun h => h) (fun _ _ h => h), ho, hF⟩, fun p hp => ⟨Below.at hb (hh p hp).1 (lt_of_heap (hh p hp).1), (hh p hp).2⟩, hc.trans (hb.mono hc.size)⟩
theorem BS.alloc {w : World} {c : List UInt8} {F : List (Nat × Obj)} {wr : World} (h : BS w c F wr) (o : Obj) : BS w c ((wr.heap.size, o) :: F) (wr.alloc o) := by
  have h2 := h.below ((Below.refl _ wr).alloc (Nat.le_refl _) o)
  obtain ⟨own, hB, ho, hF⟩ := h.bld
  have hlt := hB.lt
  have hlo := hB.ltOwn
  obtain ⟨own2, hB2, ho2, hF2⟩ := h2.bld
  refine ⟨⟨own, hB.chg (S := fun _ => False) (Chg.ofBelow ((Below.refl _ wr).alloc (Nat.le_refl _) o)) (fun h => h) (fun _ _ h => h), ho, fun p hp => ?_⟩, fun p hp => ?_, h2.chg⟩
  · rcases List.mem_cons.1 hp with rfl | hp
    · intro e; exact absurd (hlo _ e) (by simp)
    · exact hF p hp
  · rcases List.mem_cons.1 hp with rfl | hp
    · exact ⟨heap_alloc_new wr o, by simp; omega⟩
    · exact h2.hold p hp
theorem BS.less {w : World} {c : List UInt8} {F G : List (Nat × Obj)} {wr : World} (h : BS w c F wr) (hG : ∀ p ∈ G, p ∈ F) : BS w c G wr := by
  obtain ⟨⟨own, hB, ho, hF⟩, hh, hc⟩ := h
  exact ⟨⟨own, hB, ho, fun p hp => hF p (hG p hp)⟩, fun p hp => hh p (hG p hp), hc⟩
theorem BS.nil {w : World} {c : List UInt8} {F : List (Nat × Obj)} {wr : World} (h : BS w c F wr) : BS w c [] wr := h.less (fun _ h => (List.not_mem_nil h).elim)
theorem BS.tail {w : World} {c : List UInt8} {p : Nat × Obj} {F : List (Nat × Obj)} {wr : World} (h : BS w c (p :: F) wr) : BS w c F wr := h.less (fun _ h => List.mem_cons_of_mem _ h)
theorem BS.h0 {w : World} {c : List UInt8} {k : Nat} {o : Obj} {F : List (Nat × Obj)} {wr : World} (h : BS w c ((k, o) :: F) wr) : wr.heap[k]? = some o := (h.hold (k, o) (List.mem_cons_self ..)).1
theorem BS.h1 {w : World} {c : List UInt8} {k : Nat} {o : Obj} {p : Nat × Obj} {F : List (Nat × Obj)} {wr : World} (h : BS w c (p :: (k, o) :: F) wr) : wr.heap[k]? = some o := h.tail.h0
theorem BS.drew {w : World} {c : List UInt8} {F : List (Nat × Obj)} {wr : World} (h : BS w c F wr) : BS w c F wr.drew := h.below (Below.refl _ wr).drew

theorem bs_write {w : World} {c : List UInt8} {F : List (Nat × Obj)} {wr : World} (h : BS w c F wr) (s : List UInt8) (hl : c.length + s.length ≤ 140737488355328) :
    Calls Tryd.prog 13 #[.pointer (some ⟨w.heap.size, 0, none⟩), .string (strA s)] wr fun e w' => e = .returned (.tuple #[.int .i64 s.length, .nilIface]) ∧ BS w (c ++ s) F w' := by
  obtain ⟨⟨own, hB, ho, hF⟩, hh, hc⟩ := h
  have hsz : (strA s).size = s.length := by simp [strA, ByteArray.size]
  refine (writeString w.heap.size own _ (strA s) wr hB (by rw [hsz]; simpa [Lib.byteCells] using hl)).mono ?_
  rintro e w' ⟨rfl, own', hB', hc', hn⟩
  rw [hsz]
  have e2 : Lib.byteCells c ++ Lib.strCells (strA s) = Lib.byteCells (c ++ s) := by
    have : Lib.strCells (strA s) = Lib.byteCells s := rfl
    rw [this]; exact (List.map_append ..).symm
  rw [e2] at hB'
  have hlt := hB.lt
  refine ⟨rfl, ⟨own', hB', ?_, ?_⟩, ?_, ?_⟩
  · rcases hn with h | ⟨g, h, hg⟩
    · rw [h]; exact ho
    · exact .inr ⟨g, h, by omega⟩
  · intro p hp
    rcases hn with h | ⟨g, h, hg⟩
    · rw [h]; exact hF p hp
    · rw [h]
      intro e
      injection e with e
      have := lt_of_heap (hh p hp).1
      omega
  · intro p hp
    refine ⟨hc'.at (hh p hp).1 ?_, (hh p hp).2⟩
    rintro (e | e)
    · exact (hh p hp).2 e
    · exact hF p hp e
  · exact hc.trans (hc'.toBelow hc.size (fun j hj e => by
      rcases e with e | e
      · omega
      · rcases ho with h | ⟨g, h, hg⟩
        · rw [h] at e; cases e
        · rw [h] at e; injection e; omega))
theorem bs_string {w : World} {c : List UInt8} {F : List (Nat × Obj)} {wr : World} (h : BS w c F wr) :
    Calls Tryd.prog 15 #[.pointer (some ⟨w.heap.size, 0, none⟩)] wr fun e w' => e = .returned (.string (strA c)) ∧ Below w.heap.size w w' := by
  obtain ⟨⟨own, hB, ho, _⟩, _, hc⟩ := h
  refine (Tryd.Builder_String_any w.heap.size w.heap.size c wr (hB.isBuilder (Nat.le_refl _) (fun g hg => by
    rcases ho with h | ⟨g', h, hg'⟩
    · rw [h] at hg; cases hg
    · rw [h] at hg; injection hg; omega)) hc.size).mono ?_
  rintro e w' ⟨rfl, hb⟩
  exact ⟨rfl, hc.trans hb⟩
end Go.Proofs.YtnkhakomjklfmaaDoor
