/- The statement's head: the document's examples. -/
import Derived.Test.YtnkhakomjklfmaaDoorPA
import Derived.Lib.SlBytesConst
namespace Go.Proofs.YtnkhakomjklfmaaDoor
set_option linter.unusedVariables false
set_option linter.unusedSimpArgs false
open Go.RowKit Go.Sort

theorem unq_ab (W : World) : Calls Tryd.prog 11 #[.string ⟨#[34, 97, 37, 50, 48, 98, 34]⟩] W fun e w' => (∃ g c, e = .returned (.tuple #[.slice (some ⟨g, 0, none⟩) 3 c, .int .i64 0]) ∧ g < w'.heap.size ∧ ∀ j u, (Lib.byteCells [97, 32, 98])[j]? = some u → w'.cell? ((⟨g, 0, none⟩ : Addr).add j) = some u) ∧ Below W.heap.size W w' := by
  refine (unquote_any [97, 37, 50, 48, 98] W (by decide)).mono ?_
  have hu : unqL [97, 37, 50, 48, 98] = some [97, 32, 98] := by decide
  rintro e w' ⟨hb, h | ⟨r, v, hr, he, ho⟩⟩
  · rw [hu] at h; exact absurd h.1 (by simp)
  · obtain rfl : r = [97, 32, 98] := by
      rw [hu] at hr
      exact (Option.some.inj hr).symm
    obtain ⟨g, cap, rfl, hg, hc⟩ := own_slice ho (by simp)
    exact ⟨⟨g, cap, he, hg, hc⟩, hb⟩
theorem unq_61 (W : World) : Calls Tryd.prog 11 #[.string ⟨#[34, 37, 54, 49, 34]⟩] W fun e w' => e = .returned (.tuple #[.slice none 0 0, .int .i64 240]) ∧ Below W.heap.size W w' := by
  refine (unquote_any [37, 54, 49] W (by decide)).mono ?_
  have hu : unqL [37, 54, 49] = none := by decide
  rintro e w' ⟨hb, h | ⟨r, v, hr, he, ho⟩⟩
  · exact ⟨h.2, hb⟩
  · rw [hu] at hr; cases hr
theorem quote_ab (W : World) (g c : Nat) (h0 : W.cell? ⟨g, 0, none⟩ = some (.int .u8 97)) (h1 : W.cell? ⟨g, 1, none⟩ = some (.int .u8 32)) (h2 : W.cell? ⟨g, 2, none⟩ = some (.int .u8 98)) :
    Calls Tryd.prog 12 #[.slice (some ⟨g, 0, none⟩) 3 c] W fun e w' => e = .returned (.string ⟨#[34, 97, 37, 50, 48, 98, 34]⟩) ∧ Below W.heap.size W w' := by
  have h := quote_any (some ⟨g, 0, none⟩) c [97, 32, 98] W (by
    intro j x hj
    have e : ∀ j, ((⟨g, 0, none⟩ : Addr).add j) = ⟨g, j, none⟩ := fun j => by unfold Addr.add; split <;> simp_all
    refine ⟨_, rfl, ?_⟩
    rw [e]
    have hjl := (List.getElem?_eq_some_iff.1 hj).1
    have : j = 0 ∨ j = 1 ∨ j = 2 := by simp at hjl; omega
    rcases this with rfl | rfl | rfl
    · cases hj; exact h0
    · cases hj; exact h1
    · cases hj; exact h2) (by decide)
  have e : strA (quoteL [97, 32, 98]) = ⟨#[34, 97, 37, 50, 48, 98, 34]⟩ := by decide
  rw [e] at h
  exact h

set_option maxHeartbeats 4000000 in
set_option maxRecDepth 100000 in
theorem shown_any (m : Int) (w : World) (ht : Tab w) (hB : 8 ≤ w.heap.size) (hm : w.cell? ⟨0, 0, none⟩ = some (.int .i64 m)) :
    Calls Tryd.prog 4 #[] w fun e w' => e = .returned (.bool true) ∧ Below w.heap.size w w' := by
  go_enter Tryd.func4, Tryd.ntmps4
  go_wp2_with fail
  refine (parse_ex m _ rfl w ht hB hm).mono ?_
  rintro e w1 ⟨⟨v, rfl, ⟨g, c, rfl, c0, c1, c6⟩⟩, HB1⟩
  have gl := World.block_lt_of_cell? w1 _ c0
  simp only at gl
  go_wp2_with fail
  refine (unq_ab w1).mono ?_
  rintro e w2 ⟨⟨g2, k2, rfl, gl2, hc2⟩, hb2⟩
  have HC2 := Lib.hid hc2
  have HB2 := HB1.trans (hb2.mono HB1.size)
  replace c0 := (hb2.cell (by simpa using gl)).trans c0
  replace c1 := (hb2.cell (by simpa using gl)).trans c1
  replace c6 := (hb2.cell (by simpa using gl)).trans c6
  have gl' := Nat.lt_of_lt_of_le gl hb2.size
  clear hc2 hb2 HB1 gl
  go_wp2_with fail
  refine (unq_61 w2).mono ?_
  rintro e w3 ⟨rfl, hb3⟩
  have HB3 := HB2.trans (hb3.mono HB2.size)
  replace c0 := (hb3.cell (by simpa using gl')).trans c0
  replace c1 := (hb3.cell (by simpa using gl')).trans c1
  replace c6 := (hb3.cell (by simpa using gl')).trans c6
  replace HC2 := Lib.hid (fun j u hj => (hb3.cell (by rw [addr_add_block]; exact gl2)).trans (HC2.out j u hj))
  have gl2' := Nat.lt_of_lt_of_le gl2 hb3.size
  clear hb3 HB2 gl' gl2
  have kc := fun (w : World) (C : Array Value) (n c : Nat) => Lib.run_convert_bytes_const (P := Tryd.prog) w 33 5 C n c Tryd.underlying33 Tryd.underlying5
  go_wp2_with fail
  refine (quote_ab _ _ _ ?_ ?_ ?_).mono ?_
  · rw [Lib.cell_of_heap (heap_alloc_new w3 _)]; rfl
  · rw [Lib.cell_of_heap (heap_alloc_new w3 _)]; rfl
  · rw [Lib.cell_of_heap (heap_alloc_new w3 _)]; rfl
  rintro e w5 ⟨rfl, hb5⟩
  clear kc
  have hb4 : Below w3.heap.size w3 w5 := ((Below.refl _ w3).alloc (Nat.le_refl _) _).trans (hb5.mono (by simp))
  have HB5 := Lib.hid (HB3.trans (hb4.mono HB3.size))
  have hcv := conv_row (W := w5) (g := g2) (n := 3) (cap := k2) (bs := [97, 32, 98]) rfl (fun j u hj => (hb4.cell (by rw [addr_add_block]; exact gl2')).trans (HC2.out j u hj))
  replace hcv : (convert 33 9 (.slice (some ⟨g2, 0, none⟩) 3 k2)).run Tryd.prog w5 = .ok (.string ⟨#[97, 32, 98]⟩) w5 := hcv
  clear hb5 hb4 HB3 HC2 c0 c1 c6
  go_wp2_with fail
  go_ret
  exact ⟨rfl, HB5.out⟩
end Go.Proofs.YtnkhakomjklfmaaDoor
