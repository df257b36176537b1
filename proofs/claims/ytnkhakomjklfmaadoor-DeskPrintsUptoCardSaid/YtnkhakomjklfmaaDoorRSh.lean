/- The reference's Show comes to the same. -/
import Derived.Test.YtnkhakomjklfmaaDoorSh
namespace Go.Proofs.YtnkhakomjklfmaaDoor
set_option linter.unusedVariables false
set_option linter.unusedSimpArgs false
open Go.RowKit Go.Sort PDeskPrints YtnkhakomjklfmaaDoorW.PrintWords

/-- The answer's box, while the round goes on. -/
structure EB (s : S52) (A4 : Option Addr) (c4 : Nat) (A5 : Option Addr) (c5 : Nat) (E : Nat) (w wr : World) : Prop where
  b0 : wr.heap[E]? = some (abox s A4 c4 A5 c5)
  chg : Below w.heap.size w wr
theorem EB.below {s : S52} {A4 : Option Addr} {c4 : Nat} {A5 : Option Addr} {c5 : Nat} {E : Nat} {w wr w2 : World} (h : EB s A4 c4 A5 c5 E w wr) (hb : Below wr.heap.size wr w2) : EB s A4 c4 A5 c5 E w w2 :=
  ⟨Below.at hb h.b0 (lt_of_heap h.b0), h.chg.trans (hb.mono h.chg.size)⟩
theorem EB.drew {s : S52} {A4 : Option Addr} {c4 : Nat} {A5 : Option Addr} {c5 : Nat} {E : Nat} {w wr : World} (h : EB s A4 c4 A5 c5 E w wr) : EB s A4 c4 A5 c5 E w wr.drew := h.below (Below.refl _ wr).drew
theorem EB.S {s : S52} {A4 : Option Addr} {c4 : Nat} {A5 : Option Addr} {c5 : Nat} {E : Nat} {w w' : World} (h : EB s A4 c4 A5 c5 E w w') :
    w'.cell? ⟨E, 0, none⟩ = some (.int .i64 s.f0) ∧ w'.cell? ⟨E, 2, none⟩ = some (.int .i64 s.f2) ∧ w'.cell? ⟨E, 3, none⟩ = some (.int .i64 s.f3) ∧ w'.cell? ⟨E, 4, none⟩ = some (.slice A4 s.f4.length c4) ∧ w'.cell? ⟨E, 5, none⟩ = some (.slice A5 s.f5.length c5) ∧ w'.cell? ⟨E, 6, none⟩ = some (.int .i64 s.f6.f0) ∧ w'.cell? ⟨E, 7, none⟩ = some (.int .i64 s.f6.f1) ∧
    w'.cell? ⟨E, 8, none⟩ = some (.int .i64 s.f6.f2) ∧ w'.cell? ⟨E, 9, none⟩ = some (.int .i64 s.f6.f3) := by
  obtain ⟨⟨a, _, b, c⟩, d⟩ := abox_at h.b0
  exact ⟨a, b, c, d⟩
theorem bits0 {b : Bool} (h : b = false) : (⟨#[48]⟩ : ByteArray) = strA (Lib.itoa (bitN b)) := by
  subst h
  rw [bitN, if_neg (by simp), Lib.itoa, if_neg (by omega), show (0 : Int).toNat = 0 from rfl, Lib.decDigits]; rfl
theorem bits1 {b : Bool} (h : b = true) : (⟨#[49]⟩ : ByteArray) = strA (Lib.itoa (bitN b)) := by
  subst h
  rw [bitN, if_pos rfl, Lib.itoa, if_neg (by omega), show (1 : Int).toNat = 1 from rfl, Lib.decDigits]; rfl

set_option maxHeartbeats 8000000 in
set_option maxRecDepth 100000 in
theorem refshow_any (A : Option Addr) (cap : Nat) (l : List S52) (w : World) (ht : Tab w) (hB : 8 ≤ w.heap.size) (hr : Kd.C k52 w A l.length l) (hok : ∀ s ∈ l, okA s) (hl : l.length ≤ 60) :
    Calls Tryd.prog 9 #[.slice A l.length cap] w fun e w' => e = .returned (.string (strA (showL l))) ∧ Below w.heap.size w w' := by
  have Hr := Lib.hid hr; clear hr
  have Hok := Lib.hid hok; clear hok
  have hcv := fun (W : World) (t : ByteArray) => Lib.run_convert_string_bytes (P := Tryd.prog) W 9 33 5 t Tryd.underlying9 Tryd.underlying33 Tryd.underlying5
  go_enter Tryd.func9, Tryd.ntmps9
  go_wp2_with fail
  go_loopw [3, 4] (fun t i wr => ∃ k : Nat, k ≤ l.length ∧ i = .int .i64 k ∧ t = .string (strA (showL (l.take k))) ∧ Below w.heap.size w wr) (fun _ i _ => l.length - (intOf i).toNat)
  case atStart => exact ⟨0, Nat.zero_le _, rfl, rfl, Below.refl _ _⟩
  case round =>
    obtain ⟨k, hk, rfl, rfl, HI⟩ := hrel
    have hcl := showL_le l k hl Hok.out
    have hsz := HI.size
    by_cases hlt : k < l.length
    · obtain ⟨s, hs⟩ : ∃ s, l[k]? = some s := ⟨_, List.getElem?_eq_getElem hlt⟩
      have Hsok := Lib.hid (Hok.out s (List.mem_of_getElem? hs))
      have HSN := Lib.hid (showL_snoc hs)
      obtain ⟨ad, A4, c4, A5, c5, had, d0, d1, d2, d3, d4, d5, d6, d7, d8, d9, l4, g4, l5, g5⟩ := at_T52 Hr.out (k : Int) (by omega) (by omega)
      have es : rd_T52 l (k : Int) = s := by simp [rd_T52, List.getD, hs]
      rw [es] at d0 d1 d2 d3 d4 d5 d6 d7 d8 d9 g4 g5
      subst had
      simp only [Int.toNat_natCast] at d0 d1 d2 d3 d4 d5 d6 d7 d8 d9
      replace d0 := (HI.cell (World.block_lt_of_cell? w _ d0)).trans d0
      replace d1 := (HI.cell (World.block_lt_of_cell? w _ d1)).trans d1
      replace d2 := (HI.cell (World.block_lt_of_cell? w _ d2)).trans d2
      replace d3 := (HI.cell (World.block_lt_of_cell? w _ d3)).trans d3
      replace d4 := (HI.cell (World.block_lt_of_cell? w _ d4)).trans d4
      replace d5 := (HI.cell (World.block_lt_of_cell? w _ d5)).trans d5
      replace d6 := (HI.cell (World.block_lt_of_cell? w _ d6)).trans d6
      replace d7 := (HI.cell (World.block_lt_of_cell? w _ d7)).trans d7
      replace d8 := (HI.cell (World.block_lt_of_cell? w _ d8)).trans d8
      replace d9 := (HI.cell (World.block_lt_of_cell? w _ d9)).trans d9
      have G4 := Lib.hid (rdB_of g4 Hsok.out.by_)
      have G5 := Lib.hid g5
      generalize showL (l.take k) = c at HSN hcl ⊢
      have zc : (strA c).size ≤ 378000000 := by rw [strA_size]; exact hcl
      clear g4 hs es l4 l5 g5
      have HE2 : EB s A4 c4 A5 c5 wr.heap.size w (wr.alloc (abox s A4 c4 A5 c5)) := ⟨heap_alloc_new wr _, HI.alloc HI.size _⟩
      have hf1 := (abox_at HE2.b0).1.2.1
      unfold abox at hf1
      go_wp2_with fail
      all_goals (clear hf1 d0 d1 d2 d3 d4 d5 d6 d7 d8 d9 hsz HI)
      all_goals (unfold abox at HE2)
      all_goals (generalize wr.heap.size = E at HE2 ⊢)
      all_goals (generalize wr.alloc _ = W1 at HE2 ⊢)
      · have hb : s.f1 = true := by assumption
        obtain ⟨L0, eL0⟩ : ∃ L, L = c ++ Lib.itoa s.f0 := ⟨_, rfl⟩
        have hL0 : strA c ++ strA (Lib.itoa s.f0) = strA L0 := by rw [eL0]; exact strA_app _ _
        have sL0 : L0.length ≤ 378000021 := by rw [eL0, List.length_append]; have := itoa_le Hsok.out.i0; omega
        have zL0 : (strA L0).size ≤ 378000021 := by rw [strA_size]; exact sL0
        have yL0 : (strA (Lib.itoa s.f0)).size ≤ 21 := by rw [strA_size]; exact itoa_le Hsok.out.i0
        obtain ⟨L1, eL1⟩ : ∃ L, L = L0 ++ [32] := ⟨_, rfl⟩
        have hL1 : strA L0 ++ (⟨#[32]⟩ : ByteArray) = strA L1 := by rw [eL1]; exact strA_app _ _
        have sL1 : L1.length ≤ 378000022 := by rw [eL1, List.length_append]; simp only [List.length_cons, List.length_nil]; omega
        have zL1 : (strA L1).size ≤ 378000022 := by rw [strA_size]; exact sL1
        obtain ⟨L2, eL2⟩ : ∃ L, L = L1 ++ Lib.itoa (bitN s.f1) := ⟨_, rfl⟩
        have hL2 : strA L1 ++ (⟨#[49]⟩ : ByteArray) = strA L2 := by rw [eL2, bits1 hb]; exact strA_app _ _
        have sL2 : L2.length ≤ 378000043 := by rw [eL2, List.length_append]; have := itoa_le (bit_ok s.f1); omega
        have zL2 : (strA L2).size ≤ 378000043 := by rw [strA_size]; exact sL2
        obtain ⟨L3, eL3⟩ : ∃ L, L = L2 ++ [32] := ⟨_, rfl⟩
        have hL3 : strA L2 ++ (⟨#[32]⟩ : ByteArray) = strA L3 := by rw [eL3]; exact strA_app _ _
        have sL3 : L3.length ≤ 378000044 := by rw [eL3, List.length_append]; simp only [List.length_cons, List.length_nil]; omega
        have zL3 : (strA L3).size ≤ 378000044 := by rw [strA_size]; exact sL3
        obtain ⟨L4, eL4⟩ : ∃ L, L = L3 ++ Lib.itoa s.f2 := ⟨_, rfl⟩
        have hL4 : strA L3 ++ strA (Lib.itoa s.f2) = strA L4 := by rw [eL4]; exact strA_app _ _
        have sL4 : L4.length ≤ 378000065 := by rw [eL4, List.length_append]; have := itoa_le Hsok.out.i2; omega
        have zL4 : (strA L4).size ≤ 378000065 := by rw [strA_size]; exact sL4
        have yL4 : (strA (Lib.itoa s.f2)).size ≤ 21 := by rw [strA_size]; exact itoa_le Hsok.out.i2
        obtain ⟨L5, eL5⟩ : ∃ L, L = L4 ++ [32] := ⟨_, rfl⟩
        have hL5 : strA L4 ++ (⟨#[32]⟩ : ByteArray) = strA L5 := by rw [eL5]; exact strA_app _ _
        have sL5 : L5.length ≤ 378000066 := by rw [eL5, List.length_append]; simp only [List.length_cons, List.length_nil]; omega
        have zL5 : (strA L5).size ≤ 378000066 := by rw [strA_size]; exact sL5
        obtain ⟨L6, eL6⟩ : ∃ L, L = L5 ++ Lib.itoa s.f3 := ⟨_, rfl⟩
        have hL6 : strA L5 ++ strA (Lib.itoa s.f3) = strA L6 := by rw [eL6]; exact strA_app _ _
        have sL6 : L6.length ≤ 378000087 := by rw [eL6, List.length_append]; have := itoa_le Hsok.out.i3; omega
        have zL6 : (strA L6).size ≤ 378000087 := by rw [strA_size]; exact sL6
        have yL6 : (strA (Lib.itoa s.f3)).size ≤ 21 := by rw [strA_size]; exact itoa_le Hsok.out.i3
        obtain ⟨L7, eL7⟩ : ∃ L, L = L6 ++ [32] := ⟨_, rfl⟩
        have hL7 : strA L6 ++ (⟨#[32]⟩ : ByteArray) = strA L7 := by rw [eL7]; exact strA_app _ _
        have sL7 : L7.length ≤ 378000088 := by rw [eL7, List.length_append]; simp only [List.length_cons, List.length_nil]; omega
        have zL7 : (strA L7).size ≤ 378000088 := by rw [strA_size]; exact sL7
        obtain ⟨L8, eL8⟩ : ∃ L, L = L7 ++ quoteL (bytesI s.f4) := ⟨_, rfl⟩
        have hL8 : strA L7 ++ strA (quoteL (bytesI s.f4)) = strA L8 := by rw [eL8]; exact strA_app _ _
        have sL8 : L8.length ≤ 381145818 := by rw [eL8, List.length_append]; have := data_le Hsok.out; omega
        have zL8 : (strA L8).size ≤ 381145818 := by rw [strA_size]; exact sL8
        have yL8 : (strA (quoteL (bytesI s.f4))).size ≤ 3145730 := by rw [strA_size]; exact data_le Hsok.out
        obtain ⟨L9, eL9⟩ : ∃ L, L = L8 ++ [32] := ⟨_, rfl⟩
        have hL9 : strA L8 ++ (⟨#[32]⟩ : ByteArray) = strA L9 := by rw [eL9]; exact strA_app _ _
        have sL9 : L9.length ≤ 381145819 := by rw [eL9, List.length_append]; simp only [List.length_cons, List.length_nil]; omega
        have zL9 : (strA L9).size ≤ 381145819 := by rw [strA_size]; exact sL9
        obtain ⟨L10, eL10⟩ : ∃ L, L = L9 ++ Lib.itoa s.f6.f0 := ⟨_, rfl⟩
        have hL10 : strA L9 ++ strA (Lib.itoa s.f6.f0) = strA L10 := by rw [eL10]; exact strA_app _ _
        have sL10 : L10.length ≤ 381145840 := by rw [eL10, List.length_append]; have := itoa_le Hsok.out.j0; omega
        have zL10 : (strA L10).size ≤ 381145840 := by rw [strA_size]; exact sL10
        have yL10 : (strA (Lib.itoa s.f6.f0)).size ≤ 21 := by rw [strA_size]; exact itoa_le Hsok.out.j0
        obtain ⟨L11, eL11⟩ : ∃ L, L = L10 ++ [32] := ⟨_, rfl⟩
        have hL11 : strA L10 ++ (⟨#[32]⟩ : ByteArray) = strA L11 := by rw [eL11]; exact strA_app _ _
        have sL11 : L11.length ≤ 381145841 := by rw [eL11, List.length_append]; simp only [List.length_cons, List.length_nil]; omega
        have zL11 : (strA L11).size ≤ 381145841 := by rw [strA_size]; exact sL11
        obtain ⟨L12, eL12⟩ : ∃ L, L = L11 ++ Lib.itoa s.f6.f1 := ⟨_, rfl⟩
        have hL12 : strA L11 ++ strA (Lib.itoa s.f6.f1) = strA L12 := by rw [eL12]; exact strA_app _ _
        have sL12 : L12.length ≤ 381145862 := by rw [eL12, List.length_append]; have := itoa_le Hsok.out.j1; omega
        have zL12 : (strA L12).size ≤ 381145862 := by rw [strA_size]; exact sL12
        have yL12 : (strA (Lib.itoa s.f6.f1)).size ≤ 21 := by rw [strA_size]; exact itoa_le Hsok.out.j1
        obtain ⟨L13, eL13⟩ : ∃ L, L = L12 ++ [32] := ⟨_, rfl⟩
        have hL13 : strA L12 ++ (⟨#[32]⟩ : ByteArray) = strA L13 := by rw [eL13]; exact strA_app _ _
        have sL13 : L13.length ≤ 381145863 := by rw [eL13, List.length_append]; simp only [List.length_cons, List.length_nil]; omega
        have zL13 : (strA L13).size ≤ 381145863 := by rw [strA_size]; exact sL13
        obtain ⟨L14, eL14⟩ : ∃ L, L = L13 ++ Lib.itoa s.f6.f2 := ⟨_, rfl⟩
        have hL14 : strA L13 ++ strA (Lib.itoa s.f6.f2) = strA L14 := by rw [eL14]; exact strA_app _ _
        have sL14 : L14.length ≤ 381145884 := by rw [eL14, List.length_append]; have := itoa_le Hsok.out.j2; omega
        have zL14 : (strA L14).size ≤ 381145884 := by rw [strA_size]; exact sL14
        have yL14 : (strA (Lib.itoa s.f6.f2)).size ≤ 21 := by rw [strA_size]; exact itoa_le Hsok.out.j2
        obtain ⟨L15, eL15⟩ : ∃ L, L = L14 ++ [32] := ⟨_, rfl⟩
        have hL15 : strA L14 ++ (⟨#[32]⟩ : ByteArray) = strA L15 := by rw [eL15]; exact strA_app _ _
        have sL15 : L15.length ≤ 381145885 := by rw [eL15, List.length_append]; simp only [List.length_cons, List.length_nil]; omega
        have zL15 : (strA L15).size ≤ 381145885 := by rw [strA_size]; exact sL15
        obtain ⟨L16, eL16⟩ : ∃ L, L = L15 ++ Lib.itoa s.f6.f3 := ⟨_, rfl⟩
        have hL16 : strA L15 ++ strA (Lib.itoa s.f6.f3) = strA L16 := by rw [eL16]; exact strA_app _ _
        have sL16 : L16.length ≤ 381145906 := by rw [eL16, List.length_append]; have := itoa_le Hsok.out.j3; omega
        have zL16 : (strA L16).size ≤ 381145906 := by rw [strA_size]; exact sL16
        have yL16 : (strA (Lib.itoa s.f6.f3)).size ≤ 21 := by rw [strA_size]; exact itoa_le Hsok.out.j3
        obtain ⟨L17, eL17⟩ : ∃ L, L = L16 ++ [32] := ⟨_, rfl⟩
        have hL17 : strA L16 ++ (⟨#[32]⟩ : ByteArray) = strA L17 := by rw [eL17]; exact strA_app _ _
        have sL17 : L17.length ≤ 381145907 := by rw [eL17, List.length_append]; simp only [List.length_cons, List.length_nil]; omega
        have zL17 : (strA L17).size ≤ 381145907 := by rw [strA_size]; exact sL17
        obtain ⟨L18, eL18⟩ : ∃ L, L = L17 ++ Lib.itoa (s.f5.length : Int) := ⟨_, rfl⟩
        have hL18 : strA L17 ++ strA (Lib.itoa (s.f5.length : Int)) = strA L18 := by rw [eL18]; exact strA_app _ _
        have sL18 : L18.length ≤ 381145928 := by rw [eL18, List.length_append]; have := itoa_le (len_ok Hsok.out); omega
        have zL18 : (strA L18).size ≤ 381145928 := by rw [strA_size]; exact sL18
        have yL18 : (strA (Lib.itoa (s.f5.length : Int))).size ≤ 21 := by rw [strA_size]; exact itoa_le (len_ok Hsok.out)
        have EL := Lib.hid (show L18 = c ++ p1 s 4 ++ quoteL (bytesI s.f4) ++ p2 s 5 by
          rw [eL18, eL17, eL16, eL15, eL14, eL13, eL12, eL11, eL10, eL9, eL8, eL7, eL6, eL5, eL4, eL3, eL2, eL1, eL0]
          simp [p1, p2, vals1, vals2, List.append_assoc])
        clear eL0 sL0 eL1 sL1 eL2 sL2 eL3 sL3 eL4 sL4 eL5 sL5 eL6 sL6 eL7 sL7 eL8 sL8 eL9 sL9 eL10 sL10 eL11 sL11 eL12 sL12 eL13 sL13 eL14 sL14 eL15 sL15 eL16 sL16 eL17 sL17 eL18
        go_wp2_with fail
        refine wp_region_held_drew (S := fun w' => w'.cell? ⟨E, 0, none⟩ = some (.int .i64 s.f0) ∧ w'.cell? ⟨E, 2, none⟩ = some (.int .i64 s.f2) ∧ w'.cell? ⟨E, 3, none⟩ = some (.int .i64 s.f3) ∧ w'.cell? ⟨E, 4, none⟩ = some (.slice A4 s.f4.length c4) ∧ w'.cell? ⟨E, 5, none⟩ = some (.slice A5 s.f5.length c5) ∧ w'.cell? ⟨E, 6, none⟩ = some (.int .i64 s.f6.f0) ∧ w'.cell? ⟨E, 7, none⟩ = some (.int .i64 s.f6.f1) ∧ w'.cell? ⟨E, 8, none⟩ = some (.int .i64 s.f6.f2) ∧ w'.cell? ⟨E, 9, none⟩ = some (.int .i64 s.f6.f3)) (by kernel_rfl) (EB.S HE2.drew) (fun hHeld => ?_)
        have HX0 := HE2.drew
        clear HE2
        refine wpAnyH_take (i := 0) (v := ?_) rfl (by kernel_rfl) (by kernel_rfl) (by kernel_rfl) (fun _ _ _ h => h) (Or.inl ⟨by rfl, ?_⟩) (by assumption) ?_
        rotate_left
        · intro w hSw; (try dsimp only at hSw); go_simp; try with_reducible rfl
        try simp only [List.getElem_toArray, List.getElem_cons_zero, List.getElem_cons_succ, Act.put, List.setIfInBounds_toArray, List.set_cons_zero, List.set_cons_succ]
        refine wpAnyH_take (i := 1) (v := ?_) rfl (by kernel_rfl) (by kernel_rfl) (by kernel_rfl) (fun _ _ _ h => h) (Or.inl ⟨by rfl, ?_⟩) (by assumption) ?_
        rotate_left
        · intro w hSw; (try dsimp only at hSw); go_simp; try with_reducible rfl
        try simp only [List.getElem_toArray, List.getElem_cons_zero, List.getElem_cons_succ, Act.put, List.setIfInBounds_toArray, List.set_cons_zero, List.set_cons_succ]
        refine wpAnyH_take (i := 2) (v := ?_) rfl (by kernel_rfl) (by kernel_rfl) (by kernel_rfl) (fun _ _ _ h => h) (Or.inl ⟨by rfl, ?_⟩) (by assumption) ?_
        rotate_left
        · intro w hSw; (try dsimp only at hSw); go_simp; try with_reducible rfl
        try simp only [List.getElem_toArray, List.getElem_cons_zero, List.getElem_cons_succ, Act.put, List.setIfInBounds_toArray, List.set_cons_zero, List.set_cons_succ]
        refine wpAnyH_take (i := 6) (v := ?_) rfl (by kernel_rfl) (by kernel_rfl) (by kernel_rfl) (fun _ _ _ h => h) (Or.inl ⟨by rfl, ?_⟩) (by assumption) ?_
        rotate_left
        · intro w hSw; (try dsimp only at hSw); go_simp; try with_reducible rfl
        try simp only [List.getElem_toArray, List.getElem_cons_zero, List.getElem_cons_succ, Act.put, List.setIfInBounds_toArray, List.set_cons_zero, List.set_cons_succ]
        refine wpAnyH_take (i := 9) (v := ?_) rfl (by kernel_rfl) (by kernel_rfl) (by kernel_rfl) (fun _ _ _ h => h) (Or.inl ⟨by rfl, ?_⟩) (by assumption) ?_
        rotate_left
        · intro w hSw; (try dsimp only at hSw); go_simp; try with_reducible rfl
        try simp only [List.getElem_toArray, List.getElem_cons_zero, List.getElem_cons_succ, Act.put, List.setIfInBounds_toArray, List.set_cons_zero, List.set_cons_succ]
        refine wpAnyH_take (i := 10) (v := ?_) rfl (by kernel_rfl) (by kernel_rfl) (by kernel_rfl) (fun _ _ _ h => h) (Or.inl ⟨by rfl, ?_⟩) (by assumption) ?_
        rotate_left
        · intro w hSw; (try dsimp only at hSw); go_simp; try with_reducible rfl
        try simp only [List.getElem_toArray, List.getElem_cons_zero, List.getElem_cons_succ, Act.put, List.setIfInBounds_toArray, List.set_cons_zero, List.set_cons_succ]
        refine wpAnyH_take (i := 14) (v := ?_) rfl (by kernel_rfl) (by kernel_rfl) (by kernel_rfl) (fun _ _ _ h => h) (Or.inl ⟨by rfl, ?_⟩) (by assumption) ?_
        rotate_left
        · intro w hSw; (try dsimp only at hSw); go_simp; try with_reducible rfl
        try simp only [List.getElem_toArray, List.getElem_cons_zero, List.getElem_cons_succ, Act.put, List.setIfInBounds_toArray, List.set_cons_zero, List.set_cons_succ]
        refine wpAnyH_take (i := 15) (v := ?_) rfl (by kernel_rfl) (by kernel_rfl) (by kernel_rfl) (fun _ _ _ h => h) (Or.inl ⟨by rfl, ?_⟩) (by assumption) ?_
        rotate_left
        · intro w hSw; (try dsimp only at hSw); go_simp; try with_reducible rfl
        try simp only [List.getElem_toArray, List.getElem_cons_zero, List.getElem_cons_succ, Act.put, List.setIfInBounds_toArray, List.set_cons_zero, List.set_cons_succ]
        refine wpAnyH_take (i := 19) (v := ?_) rfl (by kernel_rfl) (by kernel_rfl) (by kernel_rfl) (fun _ _ _ h => h) (Or.inl ⟨by rfl, ?_⟩) (by assumption) ?_
        rotate_left
        · intro w hSw; (try dsimp only at hSw); go_simp; try with_reducible rfl
        try simp only [List.getElem_toArray, List.getElem_cons_zero, List.getElem_cons_succ, Act.put, List.setIfInBounds_toArray, List.set_cons_zero, List.set_cons_succ]
        refine wpAnyH_take (i := 20) (v := ?_) rfl (by kernel_rfl) (by kernel_rfl) (by kernel_rfl) (fun _ _ _ h => h) (Or.inl ⟨by rfl, ?_⟩) (by assumption) ?_
        rotate_left
        · intro w hSw; (try dsimp only at hSw); go_simp; try with_reducible rfl
        try simp only [List.getElem_toArray, List.getElem_cons_zero, List.getElem_cons_succ, Act.put, List.setIfInBounds_toArray, List.set_cons_zero, List.set_cons_succ]
        refine wpAnyH_take (i := 24) (v := ?_) rfl (by kernel_rfl) (by kernel_rfl) (by kernel_rfl) (fun _ _ _ h => h) (Or.inl ⟨by rfl, ?_⟩) (by assumption) ?_
        rotate_left
        · intro w hSw; (try dsimp only at hSw); go_simp; try with_reducible rfl
        try simp only [List.getElem_toArray, List.getElem_cons_zero, List.getElem_cons_succ, Act.put, List.setIfInBounds_toArray, List.set_cons_zero, List.set_cons_succ]
        refine wpAnyH_take (i := 25) (v := ?_) rfl (by kernel_rfl) (by kernel_rfl) (by kernel_rfl) (fun _ _ _ h => h) (Or.inl ⟨by rfl, ?_⟩) (by assumption) ?_
        rotate_left
        · intro w hSw; (try dsimp only at hSw); go_simp; try with_reducible rfl
        try simp only [List.getElem_toArray, List.getElem_cons_zero, List.getElem_cons_succ, Act.put, List.setIfInBounds_toArray, List.set_cons_zero, List.set_cons_succ]
        refine wpAnyH_take (i := 26) (v := ?_) rfl (by kernel_rfl) (by kernel_rfl) (by kernel_rfl) (fun _ _ _ h => h) (Or.inl ⟨by rfl, ?_⟩) (by assumption) ?_
        rotate_left
        · intro w hSw; (try dsimp only at hSw); go_simp; try with_reducible rfl
        try simp only [List.getElem_toArray, List.getElem_cons_zero, List.getElem_cons_succ, Act.put, List.setIfInBounds_toArray, List.set_cons_zero, List.set_cons_succ]
        refine wpAnyH_take (i := 30) (v := ?_) rfl (by kernel_rfl) (by kernel_rfl) (by kernel_rfl) (fun _ _ _ h => h) (Or.inl ⟨by rfl, ?_⟩) (by assumption) ?_
        rotate_left
        · intro w hSw; (try dsimp only at hSw); go_simp; try with_reducible rfl
        try simp only [List.getElem_toArray, List.getElem_cons_zero, List.getElem_cons_succ, Act.put, List.setIfInBounds_toArray, List.set_cons_zero, List.set_cons_succ]
        refine wpAnyH_take (i := 31) (v := ?_) rfl (by kernel_rfl) (by kernel_rfl) (by kernel_rfl) (fun _ _ _ h => h) (Or.inl ⟨by rfl, ?_⟩) (by assumption) ?_
        rotate_left
        · intro w hSw; (try dsimp only at hSw); go_simp; try with_reducible rfl
        try simp only [List.getElem_toArray, List.getElem_cons_zero, List.getElem_cons_succ, Act.put, List.setIfInBounds_toArray, List.set_cons_zero, List.set_cons_succ]
        refine wpAnyH_take (i := 32) (v := ?_) rfl (by kernel_rfl) (by kernel_rfl) (by kernel_rfl) (fun _ _ _ h => h) (Or.inl ⟨by rfl, ?_⟩) (by assumption) ?_
        rotate_left
        · intro w hSw; (try dsimp only at hSw); go_simp; try with_reducible rfl
        try simp only [List.getElem_toArray, List.getElem_cons_zero, List.getElem_cons_succ, Act.put, List.setIfInBounds_toArray, List.set_cons_zero, List.set_cons_succ]
        refine wpAnyH_take (i := 36) (v := ?_) rfl (by kernel_rfl) (by kernel_rfl) (by kernel_rfl) (fun _ _ _ h => h) (Or.inl ⟨by rfl, ?_⟩) (by assumption) ?_
        rotate_left
        · intro w hSw; (try dsimp only at hSw); go_simp; try with_reducible rfl
        try simp only [List.getElem_toArray, List.getElem_cons_zero, List.getElem_cons_succ, Act.put, List.setIfInBounds_toArray, List.set_cons_zero, List.set_cons_succ]
        refine wpAnyH_take (i := 37) (v := ?_) rfl (by kernel_rfl) (by kernel_rfl) (by kernel_rfl) (fun _ _ _ h => h) (Or.inl ⟨by rfl, ?_⟩) (by assumption) ?_
        rotate_left
        · intro w hSw; (try dsimp only at hSw); go_simp; try with_reducible rfl
        try simp only [List.getElem_toArray, List.getElem_cons_zero, List.getElem_cons_succ, Act.put, List.setIfInBounds_toArray, List.set_cons_zero, List.set_cons_succ]
        refine wpAnyH_take (i := 38) (v := ?_) rfl (by kernel_rfl) (by kernel_rfl) (by kernel_rfl) (fun _ _ _ h => h) (Or.inl ⟨by rfl, ?_⟩) (by assumption) ?_
        rotate_left
        · intro w hSw; (try dsimp only at hSw); go_simp; try with_reducible rfl
        try simp only [List.getElem_toArray, List.getElem_cons_zero, List.getElem_cons_succ, Act.put, List.setIfInBounds_toArray, List.set_cons_zero, List.set_cons_succ]
        refine wpAnyH_take (i := 42) (v := ?_) rfl (by kernel_rfl) (by kernel_rfl) (by kernel_rfl) (fun _ _ _ h => h) (Or.inl ⟨by rfl, ?_⟩) (by assumption) ?_
        rotate_left
        · intro w hSw; (try dsimp only at hSw); go_simp; try with_reducible rfl
        try simp only [List.getElem_toArray, List.getElem_cons_zero, List.getElem_cons_succ, Act.put, List.setIfInBounds_toArray, List.set_cons_zero, List.set_cons_succ]
        refine wpAnyH_take (i := 43) (v := ?_) rfl (by kernel_rfl) (by kernel_rfl) (by kernel_rfl) (fun _ _ _ h => h) (Or.inl ⟨by rfl, ?_⟩) (by assumption) ?_
        rotate_left
        · intro w hSw; (try dsimp only at hSw); go_simp; try with_reducible rfl
        try simp only [List.getElem_toArray, List.getElem_cons_zero, List.getElem_cons_succ, Act.put, List.setIfInBounds_toArray, List.set_cons_zero, List.set_cons_succ]
        refine wpAnyH_take (i := 44) (v := ?_) rfl (by kernel_rfl) (by kernel_rfl) (by kernel_rfl) (fun _ _ _ h => h) (Or.inl ⟨by rfl, ?_⟩) (by assumption) ?_
        rotate_left
        · intro w hSw; (try dsimp only at hSw); go_simp; try with_reducible rfl
        try simp only [List.getElem_toArray, List.getElem_cons_zero, List.getElem_cons_succ, Act.put, List.setIfInBounds_toArray, List.set_cons_zero, List.set_cons_succ]
        refine wpAnyH_take (i := 48) (v := ?_) rfl (by kernel_rfl) (by kernel_rfl) (by kernel_rfl) (fun _ _ _ h => h) (Or.inl ⟨by rfl, ?_⟩) (by assumption) ?_
        rotate_left
        · intro w hSw; (try dsimp only at hSw); go_simp; try with_reducible rfl
        try simp only [List.getElem_toArray, List.getElem_cons_zero, List.getElem_cons_succ, Act.put, List.setIfInBounds_toArray, List.set_cons_zero, List.set_cons_succ]
        refine wpAnyH_take (i := 49) (v := ?_) rfl (by kernel_rfl) (by kernel_rfl) (by kernel_rfl) (fun _ _ _ h => h) (Or.inl ⟨by rfl, ?_⟩) (by assumption) ?_
        rotate_left
        · intro w hSw; (try dsimp only at hSw); go_simp; try with_reducible rfl
        try simp only [List.getElem_toArray, List.getElem_cons_zero, List.getElem_cons_succ, Act.put, List.setIfInBounds_toArray, List.set_cons_zero, List.set_cons_succ]
        refine wpAnyH_take (i := 50) (v := ?_) rfl (by kernel_rfl) (by kernel_rfl) (by kernel_rfl) (fun _ _ _ h => h) (Or.inl ⟨by rfl, ?_⟩) (by assumption) ?_
        rotate_left
        · intro w hSw; (try dsimp only at hSw); go_simp; try with_reducible rfl
        try simp only [List.getElem_toArray, List.getElem_cons_zero, List.getElem_cons_succ, Act.put, List.setIfInBounds_toArray, List.set_cons_zero, List.set_cons_succ]
        refine wpAnyH_ready (rs := [3]) (by kernel_rfl) (by simp) ?_
        refine AllReadyH.cons (i := 3) rfl (fun K hK => ?_) ?_
        · go_simp
          refine (itoa_any _ _ (ht.below HX0.chg hB) Hsok.out.i0.1 Hsok.out.i0.2).mono ?_
          rintro e w1 ⟨rfl, hb⟩
          have HX1 := HX0.below hb
          clear hb HX0
          try go_simp
          try clear hHeld
          refine hK.out _ _ HX1.S (fun hHeld => ?_)
          clear hK K
          try simp only [List.getElem_toArray, List.getElem_cons_zero, List.getElem_cons_succ, Act.put, List.setIfInBounds_toArray, List.set_cons_zero, List.set_cons_succ]
          refine wpAnyH_take (i := 4) (v := ?_) rfl (by kernel_rfl) (by kernel_rfl) (by kernel_rfl) (fun _ _ _ h => h) (Or.inl ⟨by rfl, ?_⟩) (by assumption) ?_
          rotate_left
          · intro w hSw; go_simp; rw [if_neg (by omega)]
          try simp only [List.getElem_toArray, List.getElem_cons_zero, List.getElem_cons_succ, Act.put, List.setIfInBounds_toArray, List.set_cons_zero, List.set_cons_succ]
          refine wpAnyH_take (i := 5) (v := ?_) rfl (by kernel_rfl) (by kernel_rfl) (by kernel_rfl) (fun _ _ _ h => h) (Or.inl ⟨by rfl, ?_⟩) (by assumption) ?_
          rotate_left
          · intro w hSw; go_simp; rw [if_neg (by omega)]
          try simp only [List.getElem_toArray, List.getElem_cons_zero, List.getElem_cons_succ, Act.put, List.setIfInBounds_toArray, List.set_cons_zero, List.set_cons_succ]
          refine wpAnyH_take (i := 7) (v := ?_) rfl (by kernel_rfl) (by kernel_rfl) (by kernel_rfl) (fun _ _ _ h => h) (Or.inl ⟨by rfl, ?_⟩) (by assumption) ?_
          rotate_left
          · intro w hSw; go_simp; rw [if_neg (by omega)]
          try simp only [List.getElem_toArray, List.getElem_cons_zero, List.getElem_cons_succ, Act.put, List.setIfInBounds_toArray, List.set_cons_zero, List.set_cons_succ]
          refine wpAnyH_take (i := 8) (v := ?_) rfl (by kernel_rfl) (by kernel_rfl) (by kernel_rfl) (fun _ _ _ h => h) (Or.inl ⟨by rfl, ?_⟩) (by assumption) ?_
          rotate_left
          · intro w hSw; go_simp; rw [if_neg (by omega)]
          try simp only [List.getElem_toArray, List.getElem_cons_zero, List.getElem_cons_succ, Act.put, List.setIfInBounds_toArray, List.set_cons_zero, List.set_cons_succ]
          refine wpAnyH_ready (rs := [11]) (by kernel_rfl) (by simp) ?_
          refine AllReadyH.cons (i := 11) rfl (fun K hK => ?_) ?_
          · go_simp
            refine (itoa_any _ _ (ht.below HX1.chg hB) Hsok.out.i2.1 Hsok.out.i2.2).mono ?_
            rintro e w2 ⟨rfl, hb⟩
            have HX2 := HX1.below hb
            clear hb HX1
            try go_simp
            try clear hHeld
            refine hK.out _ _ HX2.S (fun hHeld => ?_)
            clear hK K
            try simp only [List.getElem_toArray, List.getElem_cons_zero, List.getElem_cons_succ, Act.put, List.setIfInBounds_toArray, List.set_cons_zero, List.set_cons_succ]
            refine wpAnyH_take (i := 12) (v := ?_) rfl (by kernel_rfl) (by kernel_rfl) (by kernel_rfl) (fun _ _ _ h => h) (Or.inl ⟨by rfl, ?_⟩) (by assumption) ?_
            rotate_left
            · intro w hSw; go_simp; rw [if_neg (by omega)]
            try simp only [List.getElem_toArray, List.getElem_cons_zero, List.getElem_cons_succ, Act.put, List.setIfInBounds_toArray, List.set_cons_zero, List.set_cons_succ]
            refine wpAnyH_take (i := 13) (v := ?_) rfl (by kernel_rfl) (by kernel_rfl) (by kernel_rfl) (fun _ _ _ h => h) (Or.inl ⟨by rfl, ?_⟩) (by assumption) ?_
            rotate_left
            · intro w hSw; go_simp; rw [if_neg (by omega)]
            try simp only [List.getElem_toArray, List.getElem_cons_zero, List.getElem_cons_succ, Act.put, List.setIfInBounds_toArray, List.set_cons_zero, List.set_cons_succ]
            refine wpAnyH_ready (rs := [16]) (by kernel_rfl) (by simp) ?_
            refine AllReadyH.cons (i := 16) rfl (fun K hK => ?_) ?_
            · go_simp
              refine (itoa_any _ _ (ht.below HX2.chg hB) Hsok.out.i3.1 Hsok.out.i3.2).mono ?_
              rintro e w3 ⟨rfl, hb⟩
              have HX3 := HX2.below hb
              clear hb HX2
              try go_simp
              try clear hHeld
              refine hK.out _ _ HX3.S (fun hHeld => ?_)
              clear hK K
              try simp only [List.getElem_toArray, List.getElem_cons_zero, List.getElem_cons_succ, Act.put, List.setIfInBounds_toArray, List.set_cons_zero, List.set_cons_succ]
              refine wpAnyH_take (i := 17) (v := ?_) rfl (by kernel_rfl) (by kernel_rfl) (by kernel_rfl) (fun _ _ _ h => h) (Or.inl ⟨by rfl, ?_⟩) (by assumption) ?_
              rotate_left
              · intro w hSw; go_simp; rw [if_neg (by omega)]
              try simp only [List.getElem_toArray, List.getElem_cons_zero, List.getElem_cons_succ, Act.put, List.setIfInBounds_toArray, List.set_cons_zero, List.set_cons_succ]
              refine wpAnyH_take (i := 18) (v := ?_) rfl (by kernel_rfl) (by kernel_rfl) (by kernel_rfl) (fun _ _ _ h => h) (Or.inl ⟨by rfl, ?_⟩) (by assumption) ?_
              rotate_left
              · intro w hSw; go_simp; rw [if_neg (by omega)]
              try simp only [List.getElem_toArray, List.getElem_cons_zero, List.getElem_cons_succ, Act.put, List.setIfInBounds_toArray, List.set_cons_zero, List.set_cons_succ]
              refine wpAnyH_ready (rs := [21]) (by kernel_rfl) (by simp) ?_
              refine AllReadyH.cons (i := 21) rfl (fun K hK => ?_) ?_
              · go_simp
                refine (rquote_s Hsok.out A4 c4 _ (G4.out.below HX3.chg)).mono ?_
                rintro e w4 ⟨rfl, hb⟩
                have HX4 := HX3.below hb
                clear hb HX3
                try go_simp
                try clear hHeld
                refine hK.out _ _ HX4.S (fun hHeld => ?_)
                clear hK K
                try simp only [List.getElem_toArray, List.getElem_cons_zero, List.getElem_cons_succ, Act.put, List.setIfInBounds_toArray, List.set_cons_zero, List.set_cons_succ]
                refine wpAnyH_take (i := 22) (v := ?_) rfl (by kernel_rfl) (by kernel_rfl) (by kernel_rfl) (fun _ _ _ h => h) (Or.inl ⟨by rfl, ?_⟩) (by assumption) ?_
                rotate_left
                · intro w hSw; go_simp; rw [if_neg (by omega)]
                try simp only [List.getElem_toArray, List.getElem_cons_zero, List.getElem_cons_succ, Act.put, List.setIfInBounds_toArray, List.set_cons_zero, List.set_cons_succ]
                refine wpAnyH_take (i := 23) (v := ?_) rfl (by kernel_rfl) (by kernel_rfl) (by kernel_rfl) (fun _ _ _ h => h) (Or.inl ⟨by rfl, ?_⟩) (by assumption) ?_
                rotate_left
                · intro w hSw; go_simp; rw [if_neg (by omega)]
                try simp only [List.getElem_toArray, List.getElem_cons_zero, List.getElem_cons_succ, Act.put, List.setIfInBounds_toArray, List.set_cons_zero, List.set_cons_succ]
                refine wpAnyH_ready (rs := [27]) (by kernel_rfl) (by simp) ?_
                refine AllReadyH.cons (i := 27) rfl (fun K hK => ?_) ?_
                · go_simp
                  refine (itoa_any _ _ (ht.below HX4.chg hB) Hsok.out.j0.1 Hsok.out.j0.2).mono ?_
                  rintro e w5 ⟨rfl, hb⟩
                  have HX5 := HX4.below hb
                  clear hb HX4
                  try go_simp
                  try clear hHeld
                  refine hK.out _ _ HX5.S (fun hHeld => ?_)
                  clear hK K
                  try simp only [List.getElem_toArray, List.getElem_cons_zero, List.getElem_cons_succ, Act.put, List.setIfInBounds_toArray, List.set_cons_zero, List.set_cons_succ]
                  refine wpAnyH_take (i := 28) (v := ?_) rfl (by kernel_rfl) (by kernel_rfl) (by kernel_rfl) (fun _ _ _ h => h) (Or.inl ⟨by rfl, ?_⟩) (by assumption) ?_
                  rotate_left
                  · intro w hSw; go_simp; rw [if_neg (by omega)]
                  try simp only [List.getElem_toArray, List.getElem_cons_zero, List.getElem_cons_succ, Act.put, List.setIfInBounds_toArray, List.set_cons_zero, List.set_cons_succ]
                  refine wpAnyH_take (i := 29) (v := ?_) rfl (by kernel_rfl) (by kernel_rfl) (by kernel_rfl) (fun _ _ _ h => h) (Or.inl ⟨by rfl, ?_⟩) (by assumption) ?_
                  rotate_left
                  · intro w hSw; go_simp; rw [if_neg (by omega)]
                  try simp only [List.getElem_toArray, List.getElem_cons_zero, List.getElem_cons_succ, Act.put, List.setIfInBounds_toArray, List.set_cons_zero, List.set_cons_succ]
                  refine wpAnyH_ready (rs := [33]) (by kernel_rfl) (by simp) ?_
                  refine AllReadyH.cons (i := 33) rfl (fun K hK => ?_) ?_
                  · go_simp
                    refine (itoa_any _ _ (ht.below HX5.chg hB) Hsok.out.j1.1 Hsok.out.j1.2).mono ?_
                    rintro e w6 ⟨rfl, hb⟩
                    have HX6 := HX5.below hb
                    clear hb HX5
                    try go_simp
                    try clear hHeld
                    refine hK.out _ _ HX6.S (fun hHeld => ?_)
                    clear hK K
                    try simp only [List.getElem_toArray, List.getElem_cons_zero, List.getElem_cons_succ, Act.put, List.setIfInBounds_toArray, List.set_cons_zero, List.set_cons_succ]
                    refine wpAnyH_take (i := 34) (v := ?_) rfl (by kernel_rfl) (by kernel_rfl) (by kernel_rfl) (fun _ _ _ h => h) (Or.inl ⟨by rfl, ?_⟩) (by assumption) ?_
                    rotate_left
                    · intro w hSw; go_simp; rw [if_neg (by omega)]
                    try simp only [List.getElem_toArray, List.getElem_cons_zero, List.getElem_cons_succ, Act.put, List.setIfInBounds_toArray, List.set_cons_zero, List.set_cons_succ]
                    refine wpAnyH_take (i := 35) (v := ?_) rfl (by kernel_rfl) (by kernel_rfl) (by kernel_rfl) (fun _ _ _ h => h) (Or.inl ⟨by rfl, ?_⟩) (by assumption) ?_
                    rotate_left
                    · intro w hSw; go_simp; rw [if_neg (by omega)]
                    try simp only [List.getElem_toArray, List.getElem_cons_zero, List.getElem_cons_succ, Act.put, List.setIfInBounds_toArray, List.set_cons_zero, List.set_cons_succ]
                    refine wpAnyH_ready (rs := [39]) (by kernel_rfl) (by simp) ?_
                    refine AllReadyH.cons (i := 39) rfl (fun K hK => ?_) ?_
                    · go_simp
                      refine (itoa_any _ _ (ht.below HX6.chg hB) Hsok.out.j2.1 Hsok.out.j2.2).mono ?_
                      rintro e w7 ⟨rfl, hb⟩
                      have HX7 := HX6.below hb
                      clear hb HX6
                      try go_simp
                      try clear hHeld
                      refine hK.out _ _ HX7.S (fun hHeld => ?_)
                      clear hK K
                      try simp only [List.getElem_toArray, List.getElem_cons_zero, List.getElem_cons_succ, Act.put, List.setIfInBounds_toArray, List.set_cons_zero, List.set_cons_succ]
                      refine wpAnyH_take (i := 40) (v := ?_) rfl (by kernel_rfl) (by kernel_rfl) (by kernel_rfl) (fun _ _ _ h => h) (Or.inl ⟨by rfl, ?_⟩) (by assumption) ?_
                      rotate_left
                      · intro w hSw; go_simp; rw [if_neg (by omega)]
                      try simp only [List.getElem_toArray, List.getElem_cons_zero, List.getElem_cons_succ, Act.put, List.setIfInBounds_toArray, List.set_cons_zero, List.set_cons_succ]
                      refine wpAnyH_take (i := 41) (v := ?_) rfl (by kernel_rfl) (by kernel_rfl) (by kernel_rfl) (fun _ _ _ h => h) (Or.inl ⟨by rfl, ?_⟩) (by assumption) ?_
                      rotate_left
                      · intro w hSw; go_simp; rw [if_neg (by omega)]
                      try simp only [List.getElem_toArray, List.getElem_cons_zero, List.getElem_cons_succ, Act.put, List.setIfInBounds_toArray, List.set_cons_zero, List.set_cons_succ]
                      refine wpAnyH_ready (rs := [45]) (by kernel_rfl) (by simp) ?_
                      refine AllReadyH.cons (i := 45) rfl (fun K hK => ?_) ?_
                      · go_simp
                        refine (itoa_any _ _ (ht.below HX7.chg hB) Hsok.out.j3.1 Hsok.out.j3.2).mono ?_
                        rintro e w8 ⟨rfl, hb⟩
                        have HX8 := HX7.below hb
                        clear hb HX7
                        try go_simp
                        try clear hHeld
                        refine hK.out _ _ HX8.S (fun hHeld => ?_)
                        clear hK K
                        try simp only [List.getElem_toArray, List.getElem_cons_zero, List.getElem_cons_succ, Act.put, List.setIfInBounds_toArray, List.set_cons_zero, List.set_cons_succ]
                        refine wpAnyH_take (i := 46) (v := ?_) rfl (by kernel_rfl) (by kernel_rfl) (by kernel_rfl) (fun _ _ _ h => h) (Or.inl ⟨by rfl, ?_⟩) (by assumption) ?_
                        rotate_left
                        · intro w hSw; go_simp; rw [if_neg (by omega)]
                        try simp only [List.getElem_toArray, List.getElem_cons_zero, List.getElem_cons_succ, Act.put, List.setIfInBounds_toArray, List.set_cons_zero, List.set_cons_succ]
                        refine wpAnyH_take (i := 47) (v := ?_) rfl (by kernel_rfl) (by kernel_rfl) (by kernel_rfl) (fun _ _ _ h => h) (Or.inl ⟨by rfl, ?_⟩) (by assumption) ?_
                        rotate_left
                        · intro w hSw; go_simp; rw [if_neg (by omega)]
                        try simp only [List.getElem_toArray, List.getElem_cons_zero, List.getElem_cons_succ, Act.put, List.setIfInBounds_toArray, List.set_cons_zero, List.set_cons_succ]
                        refine wpAnyH_ready (rs := [51]) (by kernel_rfl) (by simp) ?_
                        refine AllReadyH.cons (i := 51) rfl (fun K hK => ?_) ?_
                        · go_simp
                          refine (itoa_any _ _ (ht.below HX8.chg hB) (len_ok Hsok.out).1 (len_ok Hsok.out).2).mono ?_
                          rintro e w9 ⟨rfl, hb⟩
                          have HX9 := HX8.below hb
                          clear hb HX8
                          try go_simp
                          try clear hHeld
                          refine hK.out _ _ HX9.S (fun hHeld => ?_)
                          clear hK K
                          try simp only [List.getElem_toArray, List.getElem_cons_zero, List.getElem_cons_succ, Act.put, List.setIfInBounds_toArray, List.set_cons_zero, List.set_cons_succ]
                          refine wpAnyH_take (i := 52) (v := ?_) rfl (by kernel_rfl) (by kernel_rfl) (by kernel_rfl) (fun _ _ _ h => h) (Or.inl ⟨by rfl, ?_⟩) (by assumption) ?_
                          rotate_left
                          · intro w hSw; go_simp; rw [if_neg (by omega)]
                          try simp only [List.getElem_toArray, List.getElem_cons_zero, List.getElem_cons_succ, Act.put, List.setIfInBounds_toArray, List.set_cons_zero, List.set_cons_succ]
                          refine wpAnyH_ready (rs := [53]) (by kernel_rfl) (by simp) ?_
                          refine AllReadyH.cons (i := 53) rfl (fun K hK => ?_) ?_
                          · go_simp
                            try clear hHeld
                            refine hK.out _ _ HX9.S (fun hHeld => ?_)
                            clear hK K
                            try simp only [List.getElem_toArray, List.getElem_cons_zero, List.getElem_cons_succ, Act.put, List.setIfInBounds_toArray, List.set_cons_zero, List.set_cons_succ]
                            refine wpAnyH_done (by kernel_rfl) ?_ _
                            clear hHeld hL0 zL0 hL1 zL1 hL2 zL2 hL3 zL3 hL4 zL4 hL5 zL5 hL6 zL6 hL7 zL7 hL8 zL8 hL9 zL9 hL10 zL10 hL11 zL11 hL12 zL12 hL13 zL13 hL14 zL14 hL15 zL15 hL16 zL16 hL17 zL17 hL18 zL18 yL0 yL4 yL6 yL8 yL10 yL12 yL14 yL16 yL18
                            have hc5 := HX9.S.2.2.2.2.1
                            go_wp2_with fail
                            go_loopw [3, 7] (fun t i wr => ∃ j : Nat, j ≤ s.f5.length ∧ i = .int .i64 j ∧ t = .string (strA (L18 ++ p3 s j)) ∧ EB s A4 c4 A5 c5 E w wr) (fun _ i _ => s.f5.length - (intOf i).toNat)
                            case atStart => exact ⟨0, Nat.zero_le _, rfl, by simp [p3], HX9⟩
                            case round =>
                              clear HX9 hc5
                              obtain ⟨j, hj, rfl, rfl, HJ⟩ := hrel
                              have hpl := p3_le Hsok.out j
                              have hnl : s.f5.length ≤ 1048576 := Nat.le_trans (nameSum_len _) Hsok.out.ln
                              have hc5 := HJ.S.2.2.2.2.1
                              obtain ⟨M, eM⟩ : ∃ M, M = L18 ++ p3 s j := ⟨_, rfl⟩
                              have sM : M.length ≤ 400000000 := by rw [eM, List.length_append]; omega
                              rw [← eM]
                              have EM := Lib.hid eM
                              clear eM hpl
                              have zM : (strA M).size ≤ 400000000 := by rw [strA_size]; exact sM
                              by_cases hj4 : j < s.f5.length
                              · obtain ⟨x, hx⟩ : ∃ x, s.f5[j]? = some x := ⟨_, List.getElem?_eq_getElem hj4⟩
                                obtain ⟨ad5, had5, hcx⟩ := name_at G5.out HJ.chg hx
                                subst had5
                                have HX := Lib.hid (name_le Hsok.out (List.mem_of_getElem? hx))
                                have HP := Lib.hid (p3_snoc hx)
                                have hql := quote_le x.data.toList (by have := HX.out; simpa using this)
                                obtain ⟨M1, eM1⟩ : ∃ M1, M1 = M ++ [32] := ⟨_, rfl⟩
                                have hM1 : strA M ++ (⟨#[32]⟩ : ByteArray) = strA M1 := by rw [eM1]; exact strA_app _ [32]
                                have zM1 : (strA M1).size ≤ 400000001 := by rw [strA_size, eM1, List.length_append]; simp only [List.length_cons, List.length_nil]; omega
                                have hM2 : strA M1 ++ strA (quoteL x.data.toList) = strA (M1 ++ quoteL x.data.toList) := strA_app _ _
                                have zq : (strA (quoteL x.data.toList)).size ≤ 3145730 := by rw [strA_size]; exact hql
                                have HE := Lib.hid (show M1 ++ quoteL x.data.toList = L18 ++ p3 s (j + 1) by
                                  rw [eM1, EM.out, ← HP.out]
                                  simp [List.append_assoc])
                                clear hx eM1
                                go_wp2_with fail
                                have HJ1 := HJ.below (conv_below wr x)
                                refine (rquote_str _ _ x _ (conv_rd wr x) HX.out).mono ?_
                                rintro e wq ⟨rfl, hb3⟩
                                have HJ2 := HJ1.below hb3
                                clear HJ HJ1 hb3 hcx hc5
                                go_wp2_with fail
                                go_roundw
                                case rel => exact ⟨j + 1, by omega, by go_num, by rw [HE.out], HJ2⟩
                                case measure => simp [intOf]; omega
                              · obtain rfl : j = s.f5.length := by omega
                                have hM1 : strA M ++ (⟨#[10]⟩ : ByteArray) = strA (M ++ [10]) := strA_app _ [10]
                                have HE := Lib.hid (show M ++ [10] = showL (l.take (k + 1)) by
                                  rw [EM.out, EL.out, ← HSN.out, showA]
                                  simp only [List.append_assoc])
                                go_wp2_with fail
                                go_roundw
                                case rel => exact ⟨k + 1, by omega, by go_num, by rw [HE.out], HJ.chg⟩
                                case measure => simp [intOf]; omega
                          exact AllReadyH.nil
                        exact AllReadyH.nil
                      exact AllReadyH.nil
                    exact AllReadyH.nil
                  exact AllReadyH.nil
                exact AllReadyH.nil
              exact AllReadyH.nil
            exact AllReadyH.nil
          exact AllReadyH.nil
        exact AllReadyH.nil
      · have hb : s.f1 = false := by assumption
        obtain ⟨L0, eL0⟩ : ∃ L, L = c ++ Lib.itoa s.f0 := ⟨_, rfl⟩
        have hL0 : strA c ++ strA (Lib.itoa s.f0) = strA L0 := by rw [eL0]; exact strA_app _ _
        have sL0 : L0.length ≤ 378000021 := by rw [eL0, List.length_append]; have := itoa_le Hsok.out.i0; omega
        have zL0 : (strA L0).size ≤ 378000021 := by rw [strA_size]; exact sL0
        have yL0 : (strA (Lib.itoa s.f0)).size ≤ 21 := by rw [strA_size]; exact itoa_le Hsok.out.i0
        obtain ⟨L1, eL1⟩ : ∃ L, L = L0 ++ [32] := ⟨_, rfl⟩
        have hL1 : strA L0 ++ (⟨#[32]⟩ : ByteArray) = strA L1 := by rw [eL1]; exact strA_app _ _
        have sL1 : L1.length ≤ 378000022 := by rw [eL1, List.length_append]; simp only [List.length_cons, List.length_nil]; omega
        have zL1 : (strA L1).size ≤ 378000022 := by rw [strA_size]; exact sL1
        obtain ⟨L2, eL2⟩ : ∃ L, L = L1 ++ Lib.itoa (bitN s.f1) := ⟨_, rfl⟩
        have hL2 : strA L1 ++ (⟨#[48]⟩ : ByteArray) = strA L2 := by rw [eL2, bits0 hb]; exact strA_app _ _
        have sL2 : L2.length ≤ 378000043 := by rw [eL2, List.length_append]; have := itoa_le (bit_ok s.f1); omega
        have zL2 : (strA L2).size ≤ 378000043 := by rw [strA_size]; exact sL2
        obtain ⟨L3, eL3⟩ : ∃ L, L = L2 ++ [32] := ⟨_, rfl⟩
        have hL3 : strA L2 ++ (⟨#[32]⟩ : ByteArray) = strA L3 := by rw [eL3]; exact strA_app _ _
        have sL3 : L3.length ≤ 378000044 := by rw [eL3, List.length_append]; simp only [List.length_cons, List.length_nil]; omega
        have zL3 : (strA L3).size ≤ 378000044 := by rw [strA_size]; exact sL3
        obtain ⟨L4, eL4⟩ : ∃ L, L = L3 ++ Lib.itoa s.f2 := ⟨_, rfl⟩
        have hL4 : strA L3 ++ strA (Lib.itoa s.f2) = strA L4 := by rw [eL4]; exact strA_app _ _
        have sL4 : L4.length ≤ 378000065 := by rw [eL4, List.length_append]; have := itoa_le Hsok.out.i2; omega
        have zL4 : (strA L4).size ≤ 378000065 := by rw [strA_size]; exact sL4
        have yL4 : (strA (Lib.itoa s.f2)).size ≤ 21 := by rw [strA_size]; exact itoa_le Hsok.out.i2
        obtain ⟨L5, eL5⟩ : ∃ L, L = L4 ++ [32] := ⟨_, rfl⟩
        have hL5 : strA L4 ++ (⟨#[32]⟩ : ByteArray) = strA L5 := by rw [eL5]; exact strA_app _ _
        have sL5 : L5.length ≤ 378000066 := by rw [eL5, List.length_append]; simp only [List.length_cons, List.length_nil]; omega
        have zL5 : (strA L5).size ≤ 378000066 := by rw [strA_size]; exact sL5
        obtain ⟨L6, eL6⟩ : ∃ L, L = L5 ++ Lib.itoa s.f3 := ⟨_, rfl⟩
        have hL6 : strA L5 ++ strA (Lib.itoa s.f3) = strA L6 := by rw [eL6]; exact strA_app _ _
        have sL6 : L6.length ≤ 378000087 := by rw [eL6, List.length_append]; have := itoa_le Hsok.out.i3; omega
        have zL6 : (strA L6).size ≤ 378000087 := by rw [strA_size]; exact sL6
        have yL6 : (strA (Lib.itoa s.f3)).size ≤ 21 := by rw [strA_size]; exact itoa_le Hsok.out.i3
        obtain ⟨L7, eL7⟩ : ∃ L, L = L6 ++ [32] := ⟨_, rfl⟩
        have hL7 : strA L6 ++ (⟨#[32]⟩ : ByteArray) = strA L7 := by rw [eL7]; exact strA_app _ _
        have sL7 : L7.length ≤ 378000088 := by rw [eL7, List.length_append]; simp only [List.length_cons, List.length_nil]; omega
        have zL7 : (strA L7).size ≤ 378000088 := by rw [strA_size]; exact sL7
        obtain ⟨L8, eL8⟩ : ∃ L, L = L7 ++ quoteL (bytesI s.f4) := ⟨_, rfl⟩
        have hL8 : strA L7 ++ strA (quoteL (bytesI s.f4)) = strA L8 := by rw [eL8]; exact strA_app _ _
        have sL8 : L8.length ≤ 381145818 := by rw [eL8, List.length_append]; have := data_le Hsok.out; omega
        have zL8 : (strA L8).size ≤ 381145818 := by rw [strA_size]; exact sL8
        have yL8 : (strA (quoteL (bytesI s.f4))).size ≤ 3145730 := by rw [strA_size]; exact data_le Hsok.out
        obtain ⟨L9, eL9⟩ : ∃ L, L = L8 ++ [32] := ⟨_, rfl⟩
        have hL9 : strA L8 ++ (⟨#[32]⟩ : ByteArray) = strA L9 := by rw [eL9]; exact strA_app _ _
        have sL9 : L9.length ≤ 381145819 := by rw [eL9, List.length_append]; simp only [List.length_cons, List.length_nil]; omega
        have zL9 : (strA L9).size ≤ 381145819 := by rw [strA_size]; exact sL9
        obtain ⟨L10, eL10⟩ : ∃ L, L = L9 ++ Lib.itoa s.f6.f0 := ⟨_, rfl⟩
        have hL10 : strA L9 ++ strA (Lib.itoa s.f6.f0) = strA L10 := by rw [eL10]; exact strA_app _ _
        have sL10 : L10.length ≤ 381145840 := by rw [eL10, List.length_append]; have := itoa_le Hsok.out.j0; omega
        have zL10 : (strA L10).size ≤ 381145840 := by rw [strA_size]; exact sL10
        have yL10 : (strA (Lib.itoa s.f6.f0)).size ≤ 21 := by rw [strA_size]; exact itoa_le Hsok.out.j0
        obtain ⟨L11, eL11⟩ : ∃ L, L = L10 ++ [32] := ⟨_, rfl⟩
        have hL11 : strA L10 ++ (⟨#[32]⟩ : ByteArray) = strA L11 := by rw [eL11]; exact strA_app _ _
        have sL11 : L11.length ≤ 381145841 := by rw [eL11, List.length_append]; simp only [List.length_cons, List.length_nil]; omega
        have zL11 : (strA L11).size ≤ 381145841 := by rw [strA_size]; exact sL11
        obtain ⟨L12, eL12⟩ : ∃ L, L = L11 ++ Lib.itoa s.f6.f1 := ⟨_, rfl⟩
        have hL12 : strA L11 ++ strA (Lib.itoa s.f6.f1) = strA L12 := by rw [eL12]; exact strA_app _ _
        have sL12 : L12.length ≤ 381145862 := by rw [eL12, List.length_append]; have := itoa_le Hsok.out.j1; omega
        have zL12 : (strA L12).size ≤ 381145862 := by rw [strA_size]; exact sL12
        have yL12 : (strA (Lib.itoa s.f6.f1)).size ≤ 21 := by rw [strA_size]; exact itoa_le Hsok.out.j1
        obtain ⟨L13, eL13⟩ : ∃ L, L = L12 ++ [32] := ⟨_, rfl⟩
        have hL13 : strA L12 ++ (⟨#[32]⟩ : ByteArray) = strA L13 := by rw [eL13]; exact strA_app _ _
        have sL13 : L13.length ≤ 381145863 := by rw [eL13, List.length_append]; simp only [List.length_cons, List.length_nil]; omega
        have zL13 : (strA L13).size ≤ 381145863 := by rw [strA_size]; exact sL13
        obtain ⟨L14, eL14⟩ : ∃ L, L = L13 ++ Lib.itoa s.f6.f2 := ⟨_, rfl⟩
        have hL14 : strA L13 ++ strA (Lib.itoa s.f6.f2) = strA L14 := by rw [eL14]; exact strA_app _ _
        have sL14 : L14.length ≤ 381145884 := by rw [eL14, List.length_append]; have := itoa_le Hsok.out.j2; omega
        have zL14 : (strA L14).size ≤ 381145884 := by rw [strA_size]; exact sL14
        have yL14 : (strA (Lib.itoa s.f6.f2)).size ≤ 21 := by rw [strA_size]; exact itoa_le Hsok.out.j2
        obtain ⟨L15, eL15⟩ : ∃ L, L = L14 ++ [32] := ⟨_, rfl⟩
        have hL15 : strA L14 ++ (⟨#[32]⟩ : ByteArray) = strA L15 := by rw [eL15]; exact strA_app _ _
        have sL15 : L15.length ≤ 381145885 := by rw [eL15, List.length_append]; simp only [List.length_cons, List.length_nil]; omega
        have zL15 : (strA L15).size ≤ 381145885 := by rw [strA_size]; exact sL15
        obtain ⟨L16, eL16⟩ : ∃ L, L = L15 ++ Lib.itoa s.f6.f3 := ⟨_, rfl⟩
        have hL16 : strA L15 ++ strA (Lib.itoa s.f6.f3) = strA L16 := by rw [eL16]; exact strA_app _ _
        have sL16 : L16.length ≤ 381145906 := by rw [eL16, List.length_append]; have := itoa_le Hsok.out.j3; omega
        have zL16 : (strA L16).size ≤ 381145906 := by rw [strA_size]; exact sL16
        have yL16 : (strA (Lib.itoa s.f6.f3)).size ≤ 21 := by rw [strA_size]; exact itoa_le Hsok.out.j3
        obtain ⟨L17, eL17⟩ : ∃ L, L = L16 ++ [32] := ⟨_, rfl⟩
        have hL17 : strA L16 ++ (⟨#[32]⟩ : ByteArray) = strA L17 := by rw [eL17]; exact strA_app _ _
        have sL17 : L17.length ≤ 381145907 := by rw [eL17, List.length_append]; simp only [List.length_cons, List.length_nil]; omega
        have zL17 : (strA L17).size ≤ 381145907 := by rw [strA_size]; exact sL17
        obtain ⟨L18, eL18⟩ : ∃ L, L = L17 ++ Lib.itoa (s.f5.length : Int) := ⟨_, rfl⟩
        have hL18 : strA L17 ++ strA (Lib.itoa (s.f5.length : Int)) = strA L18 := by rw [eL18]; exact strA_app _ _
        have sL18 : L18.length ≤ 381145928 := by rw [eL18, List.length_append]; have := itoa_le (len_ok Hsok.out); omega
        have zL18 : (strA L18).size ≤ 381145928 := by rw [strA_size]; exact sL18
        have yL18 : (strA (Lib.itoa (s.f5.length : Int))).size ≤ 21 := by rw [strA_size]; exact itoa_le (len_ok Hsok.out)
        have EL := Lib.hid (show L18 = c ++ p1 s 4 ++ quoteL (bytesI s.f4) ++ p2 s 5 by
          rw [eL18, eL17, eL16, eL15, eL14, eL13, eL12, eL11, eL10, eL9, eL8, eL7, eL6, eL5, eL4, eL3, eL2, eL1, eL0]
          simp [p1, p2, vals1, vals2, List.append_assoc])
        clear eL0 sL0 eL1 sL1 eL2 sL2 eL3 sL3 eL4 sL4 eL5 sL5 eL6 sL6 eL7 sL7 eL8 sL8 eL9 sL9 eL10 sL10 eL11 sL11 eL12 sL12 eL13 sL13 eL14 sL14 eL15 sL15 eL16 sL16 eL17 sL17 eL18
        go_wp2_with fail
        refine wp_region_held_drew (S := fun w' => w'.cell? ⟨E, 0, none⟩ = some (.int .i64 s.f0) ∧ w'.cell? ⟨E, 2, none⟩ = some (.int .i64 s.f2) ∧ w'.cell? ⟨E, 3, none⟩ = some (.int .i64 s.f3) ∧ w'.cell? ⟨E, 4, none⟩ = some (.slice A4 s.f4.length c4) ∧ w'.cell? ⟨E, 5, none⟩ = some (.slice A5 s.f5.length c5) ∧ w'.cell? ⟨E, 6, none⟩ = some (.int .i64 s.f6.f0) ∧ w'.cell? ⟨E, 7, none⟩ = some (.int .i64 s.f6.f1) ∧ w'.cell? ⟨E, 8, none⟩ = some (.int .i64 s.f6.f2) ∧ w'.cell? ⟨E, 9, none⟩ = some (.int .i64 s.f6.f3)) (by kernel_rfl) (EB.S HE2.drew) (fun hHeld => ?_)
        have HX0 := HE2.drew
        clear HE2
        refine wpAnyH_take (i := 0) (v := ?_) rfl (by kernel_rfl) (by kernel_rfl) (by kernel_rfl) (fun _ _ _ h => h) (Or.inl ⟨by rfl, ?_⟩) (by assumption) ?_
        rotate_left
        · intro w hSw; (try dsimp only at hSw); go_simp; try with_reducible rfl
        try simp only [List.getElem_toArray, List.getElem_cons_zero, List.getElem_cons_succ, Act.put, List.setIfInBounds_toArray, List.set_cons_zero, List.set_cons_succ]
        refine wpAnyH_take (i := 1) (v := ?_) rfl (by kernel_rfl) (by kernel_rfl) (by kernel_rfl) (fun _ _ _ h => h) (Or.inl ⟨by rfl, ?_⟩) (by assumption) ?_
        rotate_left
        · intro w hSw; (try dsimp only at hSw); go_simp; try with_reducible rfl
        try simp only [List.getElem_toArray, List.getElem_cons_zero, List.getElem_cons_succ, Act.put, List.setIfInBounds_toArray, List.set_cons_zero, List.set_cons_succ]
        refine wpAnyH_take (i := 2) (v := ?_) rfl (by kernel_rfl) (by kernel_rfl) (by kernel_rfl) (fun _ _ _ h => h) (Or.inl ⟨by rfl, ?_⟩) (by assumption) ?_
        rotate_left
        · intro w hSw; (try dsimp only at hSw); go_simp; try with_reducible rfl
        try simp only [List.getElem_toArray, List.getElem_cons_zero, List.getElem_cons_succ, Act.put, List.setIfInBounds_toArray, List.set_cons_zero, List.set_cons_succ]
        refine wpAnyH_take (i := 6) (v := ?_) rfl (by kernel_rfl) (by kernel_rfl) (by kernel_rfl) (fun _ _ _ h => h) (Or.inl ⟨by rfl, ?_⟩) (by assumption) ?_
        rotate_left
        · intro w hSw; (try dsimp only at hSw); go_simp; try with_reducible rfl
        try simp only [List.getElem_toArray, List.getElem_cons_zero, List.getElem_cons_succ, Act.put, List.setIfInBounds_toArray, List.set_cons_zero, List.set_cons_succ]
        refine wpAnyH_take (i := 9) (v := ?_) rfl (by kernel_rfl) (by kernel_rfl) (by kernel_rfl) (fun _ _ _ h => h) (Or.inl ⟨by rfl, ?_⟩) (by assumption) ?_
        rotate_left
        · intro w hSw; (try dsimp only at hSw); go_simp; try with_reducible rfl
        try simp only [List.getElem_toArray, List.getElem_cons_zero, List.getElem_cons_succ, Act.put, List.setIfInBounds_toArray, List.set_cons_zero, List.set_cons_succ]
        refine wpAnyH_take (i := 10) (v := ?_) rfl (by kernel_rfl) (by kernel_rfl) (by kernel_rfl) (fun _ _ _ h => h) (Or.inl ⟨by rfl, ?_⟩) (by assumption) ?_
        rotate_left
        · intro w hSw; (try dsimp only at hSw); go_simp; try with_reducible rfl
        try simp only [List.getElem_toArray, List.getElem_cons_zero, List.getElem_cons_succ, Act.put, List.setIfInBounds_toArray, List.set_cons_zero, List.set_cons_succ]
        refine wpAnyH_take (i := 14) (v := ?_) rfl (by kernel_rfl) (by kernel_rfl) (by kernel_rfl) (fun _ _ _ h => h) (Or.inl ⟨by rfl, ?_⟩) (by assumption) ?_
        rotate_left
        · intro w hSw; (try dsimp only at hSw); go_simp; try with_reducible rfl
        try simp only [List.getElem_toArray, List.getElem_cons_zero, List.getElem_cons_succ, Act.put, List.setIfInBounds_toArray, List.set_cons_zero, List.set_cons_succ]
        refine wpAnyH_take (i := 15) (v := ?_) rfl (by kernel_rfl) (by kernel_rfl) (by kernel_rfl) (fun _ _ _ h => h) (Or.inl ⟨by rfl, ?_⟩) (by assumption) ?_
        rotate_left
        · intro w hSw; (try dsimp only at hSw); go_simp; try with_reducible rfl
        try simp only [List.getElem_toArray, List.getElem_cons_zero, List.getElem_cons_succ, Act.put, List.setIfInBounds_toArray, List.set_cons_zero, List.set_cons_succ]
        refine wpAnyH_take (i := 19) (v := ?_) rfl (by kernel_rfl) (by kernel_rfl) (by kernel_rfl) (fun _ _ _ h => h) (Or.inl ⟨by rfl, ?_⟩) (by assumption) ?_
        rotate_left
        · intro w hSw; (try dsimp only at hSw); go_simp; try with_reducible rfl
        try simp only [List.getElem_toArray, List.getElem_cons_zero, List.getElem_cons_succ, Act.put, List.setIfInBounds_toArray, List.set_cons_zero, List.set_cons_succ]
        refine wpAnyH_take (i := 20) (v := ?_) rfl (by kernel_rfl) (by kernel_rfl) (by kernel_rfl) (fun _ _ _ h => h) (Or.inl ⟨by rfl, ?_⟩) (by assumption) ?_
        rotate_left
        · intro w hSw; (try dsimp only at hSw); go_simp; try with_reducible rfl
        try simp only [List.getElem_toArray, List.getElem_cons_zero, List.getElem_cons_succ, Act.put, List.setIfInBounds_toArray, List.set_cons_zero, List.set_cons_succ]
        refine wpAnyH_take (i := 24) (v := ?_) rfl (by kernel_rfl) (by kernel_rfl) (by kernel_rfl) (fun _ _ _ h => h) (Or.inl ⟨by rfl, ?_⟩) (by assumption) ?_
        rotate_left
        · intro w hSw; (try dsimp only at hSw); go_simp; try with_reducible rfl
        try simp only [List.getElem_toArray, List.getElem_cons_zero, List.getElem_cons_succ, Act.put, List.setIfInBounds_toArray, List.set_cons_zero, List.set_cons_succ]
        refine wpAnyH_take (i := 25) (v := ?_) rfl (by kernel_rfl) (by kernel_rfl) (by kernel_rfl) (fun _ _ _ h => h) (Or.inl ⟨by rfl, ?_⟩) (by assumption) ?_
        rotate_left
        · intro w hSw; (try dsimp only at hSw); go_simp; try with_reducible rfl
        try simp only [List.getElem_toArray, List.getElem_cons_zero, List.getElem_cons_succ, Act.put, List.setIfInBounds_toArray, List.set_cons_zero, List.set_cons_succ]
        refine wpAnyH_take (i := 26) (v := ?_) rfl (by kernel_rfl) (by kernel_rfl) (by kernel_rfl) (fun _ _ _ h => h) (Or.inl ⟨by rfl, ?_⟩) (by assumption) ?_
        rotate_left
        · intro w hSw; (try dsimp only at hSw); go_simp; try with_reducible rfl
        try simp only [List.getElem_toArray, List.getElem_cons_zero, List.getElem_cons_succ, Act.put, List.setIfInBounds_toArray, List.set_cons_zero, List.set_cons_succ]
        refine wpAnyH_take (i := 30) (v := ?_) rfl (by kernel_rfl) (by kernel_rfl) (by kernel_rfl) (fun _ _ _ h => h) (Or.inl ⟨by rfl, ?_⟩) (by assumption) ?_
        rotate_left
        · intro w hSw; (try dsimp only at hSw); go_simp; try with_reducible rfl
        try simp only [List.getElem_toArray, List.getElem_cons_zero, List.getElem_cons_succ, Act.put, List.setIfInBounds_toArray, List.set_cons_zero, List.set_cons_succ]
        refine wpAnyH_take (i := 31) (v := ?_) rfl (by kernel_rfl) (by kernel_rfl) (by kernel_rfl) (fun _ _ _ h => h) (Or.inl ⟨by rfl, ?_⟩) (by assumption) ?_
        rotate_left
        · intro w hSw; (try dsimp only at hSw); go_simp; try with_reducible rfl
        try simp only [List.getElem_toArray, List.getElem_cons_zero, List.getElem_cons_succ, Act.put, List.setIfInBounds_toArray, List.set_cons_zero, List.set_cons_succ]
        refine wpAnyH_take (i := 32) (v := ?_) rfl (by kernel_rfl) (by kernel_rfl) (by kernel_rfl) (fun _ _ _ h => h) (Or.inl ⟨by rfl, ?_⟩) (by assumption) ?_
        rotate_left
        · intro w hSw; (try dsimp only at hSw); go_simp; try with_reducible rfl
        try simp only [List.getElem_toArray, List.getElem_cons_zero, List.getElem_cons_succ, Act.put, List.setIfInBounds_toArray, List.set_cons_zero, List.set_cons_succ]
        refine wpAnyH_take (i := 36) (v := ?_) rfl (by kernel_rfl) (by kernel_rfl) (by kernel_rfl) (fun _ _ _ h => h) (Or.inl ⟨by rfl, ?_⟩) (by assumption) ?_
        rotate_left
        · intro w hSw; (try dsimp only at hSw); go_simp; try with_reducible rfl
        try simp only [List.getElem_toArray, List.getElem_cons_zero, List.getElem_cons_succ, Act.put, List.setIfInBounds_toArray, List.set_cons_zero, List.set_cons_succ]
        refine wpAnyH_take (i := 37) (v := ?_) rfl (by kernel_rfl) (by kernel_rfl) (by kernel_rfl) (fun _ _ _ h => h) (Or.inl ⟨by rfl, ?_⟩) (by assumption) ?_
        rotate_left
        · intro w hSw; (try dsimp only at hSw); go_simp; try with_reducible rfl
        try simp only [List.getElem_toArray, List.getElem_cons_zero, List.getElem_cons_succ, Act.put, List.setIfInBounds_toArray, List.set_cons_zero, List.set_cons_succ]
        refine wpAnyH_take (i := 38) (v := ?_) rfl (by kernel_rfl) (by kernel_rfl) (by kernel_rfl) (fun _ _ _ h => h) (Or.inl ⟨by rfl, ?_⟩) (by assumption) ?_
        rotate_left
        · intro w hSw; (try dsimp only at hSw); go_simp; try with_reducible rfl
        try simp only [List.getElem_toArray, List.getElem_cons_zero, List.getElem_cons_succ, Act.put, List.setIfInBounds_toArray, List.set_cons_zero, List.set_cons_succ]
        refine wpAnyH_take (i := 42) (v := ?_) rfl (by kernel_rfl) (by kernel_rfl) (by kernel_rfl) (fun _ _ _ h => h) (Or.inl ⟨by rfl, ?_⟩) (by assumption) ?_
        rotate_left
        · intro w hSw; (try dsimp only at hSw); go_simp; try with_reducible rfl
        try simp only [List.getElem_toArray, List.getElem_cons_zero, List.getElem_cons_succ, Act.put, List.setIfInBounds_toArray, List.set_cons_zero, List.set_cons_succ]
        refine wpAnyH_take (i := 43) (v := ?_) rfl (by kernel_rfl) (by kernel_rfl) (by kernel_rfl) (fun _ _ _ h => h) (Or.inl ⟨by rfl, ?_⟩) (by assumption) ?_
        rotate_left
        · intro w hSw; (try dsimp only at hSw); go_simp; try with_reducible rfl
        try simp only [List.getElem_toArray, List.getElem_cons_zero, List.getElem_cons_succ, Act.put, List.setIfInBounds_toArray, List.set_cons_zero, List.set_cons_succ]
        refine wpAnyH_take (i := 44) (v := ?_) rfl (by kernel_rfl) (by kernel_rfl) (by kernel_rfl) (fun _ _ _ h => h) (Or.inl ⟨by rfl, ?_⟩) (by assumption) ?_
        rotate_left
        · intro w hSw; (try dsimp only at hSw); go_simp; try with_reducible rfl
        try simp only [List.getElem_toArray, List.getElem_cons_zero, List.getElem_cons_succ, Act.put, List.setIfInBounds_toArray, List.set_cons_zero, List.set_cons_succ]
        refine wpAnyH_take (i := 48) (v := ?_) rfl (by kernel_rfl) (by kernel_rfl) (by kernel_rfl) (fun _ _ _ h => h) (Or.inl ⟨by rfl, ?_⟩) (by assumption) ?_
        rotate_left
        · intro w hSw; (try dsimp only at hSw); go_simp; try with_reducible rfl
        try simp only [List.getElem_toArray, List.getElem_cons_zero, List.getElem_cons_succ, Act.put, List.setIfInBounds_toArray, List.set_cons_zero, List.set_cons_succ]
        refine wpAnyH_take (i := 49) (v := ?_) rfl (by kernel_rfl) (by kernel_rfl) (by kernel_rfl) (fun _ _ _ h => h) (Or.inl ⟨by rfl, ?_⟩) (by assumption) ?_
        rotate_left
        · intro w hSw; (try dsimp only at hSw); go_simp; try with_reducible rfl
        try simp only [List.getElem_toArray, List.getElem_cons_zero, List.getElem_cons_succ, Act.put, List.setIfInBounds_toArray, List.set_cons_zero, List.set_cons_succ]
        refine wpAnyH_take (i := 50) (v := ?_) rfl (by kernel_rfl) (by kernel_rfl) (by kernel_rfl) (fun _ _ _ h => h) (Or.inl ⟨by rfl, ?_⟩) (by assumption) ?_
        rotate_left
        · intro w hSw; (try dsimp only at hSw); go_simp; try with_reducible rfl
        try simp only [List.getElem_toArray, List.getElem_cons_zero, List.getElem_cons_succ, Act.put, List.setIfInBounds_toArray, List.set_cons_zero, List.set_cons_succ]
        refine wpAnyH_ready (rs := [3]) (by kernel_rfl) (by simp) ?_
        refine AllReadyH.cons (i := 3) rfl (fun K hK => ?_) ?_
        · go_simp
          refine (itoa_any _ _ (ht.below HX0.chg hB) Hsok.out.i0.1 Hsok.out.i0.2).mono ?_
          rintro e w1 ⟨rfl, hb⟩
          have HX1 := HX0.below hb
          clear hb HX0
          try go_simp
          try clear hHeld
          refine hK.out _ _ HX1.S (fun hHeld => ?_)
          clear hK K
          try simp only [List.getElem_toArray, List.getElem_cons_zero, List.getElem_cons_succ, Act.put, List.setIfInBounds_toArray, List.set_cons_zero, List.set_cons_succ]
          refine wpAnyH_take (i := 4) (v := ?_) rfl (by kernel_rfl) (by kernel_rfl) (by kernel_rfl) (fun _ _ _ h => h) (Or.inl ⟨by rfl, ?_⟩) (by assumption) ?_
          rotate_left
          · intro w hSw; go_simp; rw [if_neg (by omega)]
          try simp only [List.getElem_toArray, List.getElem_cons_zero, List.getElem_cons_succ, Act.put, List.setIfInBounds_toArray, List.set_cons_zero, List.set_cons_succ]
          refine wpAnyH_take (i := 5) (v := ?_) rfl (by kernel_rfl) (by kernel_rfl) (by kernel_rfl) (fun _ _ _ h => h) (Or.inl ⟨by rfl, ?_⟩) (by assumption) ?_
          rotate_left
          · intro w hSw; go_simp; rw [if_neg (by omega)]
          try simp only [List.getElem_toArray, List.getElem_cons_zero, List.getElem_cons_succ, Act.put, List.setIfInBounds_toArray, List.set_cons_zero, List.set_cons_succ]
          refine wpAnyH_take (i := 7) (v := ?_) rfl (by kernel_rfl) (by kernel_rfl) (by kernel_rfl) (fun _ _ _ h => h) (Or.inl ⟨by rfl, ?_⟩) (by assumption) ?_
          rotate_left
          · intro w hSw; go_simp; rw [if_neg (by omega)]
          try simp only [List.getElem_toArray, List.getElem_cons_zero, List.getElem_cons_succ, Act.put, List.setIfInBounds_toArray, List.set_cons_zero, List.set_cons_succ]
          refine wpAnyH_take (i := 8) (v := ?_) rfl (by kernel_rfl) (by kernel_rfl) (by kernel_rfl) (fun _ _ _ h => h) (Or.inl ⟨by rfl, ?_⟩) (by assumption) ?_
          rotate_left
          · intro w hSw; go_simp; rw [if_neg (by omega)]
          try simp only [List.getElem_toArray, List.getElem_cons_zero, List.getElem_cons_succ, Act.put, List.setIfInBounds_toArray, List.set_cons_zero, List.set_cons_succ]
          refine wpAnyH_ready (rs := [11]) (by kernel_rfl) (by simp) ?_
          refine AllReadyH.cons (i := 11) rfl (fun K hK => ?_) ?_
          · go_simp
            refine (itoa_any _ _ (ht.below HX1.chg hB) Hsok.out.i2.1 Hsok.out.i2.2).mono ?_
            rintro e w2 ⟨rfl, hb⟩
            have HX2 := HX1.below hb
            clear hb HX1
            try go_simp
            try clear hHeld
            refine hK.out _ _ HX2.S (fun hHeld => ?_)
            clear hK K
            try simp only [List.getElem_toArray, List.getElem_cons_zero, List.getElem_cons_succ, Act.put, List.setIfInBounds_toArray, List.set_cons_zero, List.set_cons_succ]
            refine wpAnyH_take (i := 12) (v := ?_) rfl (by kernel_rfl) (by kernel_rfl) (by kernel_rfl) (fun _ _ _ h => h) (Or.inl ⟨by rfl, ?_⟩) (by assumption) ?_
            rotate_left
            · intro w hSw; go_simp; rw [if_neg (by omega)]
            try simp only [List.getElem_toArray, List.getElem_cons_zero, List.getElem_cons_succ, Act.put, List.setIfInBounds_toArray, List.set_cons_zero, List.set_cons_succ]
            refine wpAnyH_take (i := 13) (v := ?_) rfl (by kernel_rfl) (by kernel_rfl) (by kernel_rfl) (fun _ _ _ h => h) (Or.inl ⟨by rfl, ?_⟩) (by assumption) ?_
            rotate_left
            · intro w hSw; go_simp; rw [if_neg (by omega)]
            try simp only [List.getElem_toArray, List.getElem_cons_zero, List.getElem_cons_succ, Act.put, List.setIfInBounds_toArray, List.set_cons_zero, List.set_cons_succ]
            refine wpAnyH_ready (rs := [16]) (by kernel_rfl) (by simp) ?_
            refine AllReadyH.cons (i := 16) rfl (fun K hK => ?_) ?_
            · go_simp
              refine (itoa_any _ _ (ht.below HX2.chg hB) Hsok.out.i3.1 Hsok.out.i3.2).mono ?_
              rintro e w3 ⟨rfl, hb⟩
              have HX3 := HX2.below hb
              clear hb HX2
              try go_simp
              try clear hHeld
              refine hK.out _ _ HX3.S (fun hHeld => ?_)
              clear hK K
              try simp only [List.getElem_toArray, List.getElem_cons_zero, List.getElem_cons_succ, Act.put, List.setIfInBounds_toArray, List.set_cons_zero, List.set_cons_succ]
              refine wpAnyH_take (i := 17) (v := ?_) rfl (by kernel_rfl) (by kernel_rfl) (by kernel_rfl) (fun _ _ _ h => h) (Or.inl ⟨by rfl, ?_⟩) (by assumption) ?_
              rotate_left
              · intro w hSw; go_simp; rw [if_neg (by omega)]
              try simp only [List.getElem_toArray, List.getElem_cons_zero, List.getElem_cons_succ, Act.put, List.setIfInBounds_toArray, List.set_cons_zero, List.set_cons_succ]
              refine wpAnyH_take (i := 18) (v := ?_) rfl (by kernel_rfl) (by kernel_rfl) (by kernel_rfl) (fun _ _ _ h => h) (Or.inl ⟨by rfl, ?_⟩) (by assumption) ?_
              rotate_left
              · intro w hSw; go_simp; rw [if_neg (by omega)]
              try simp only [List.getElem_toArray, List.getElem_cons_zero, List.getElem_cons_succ, Act.put, List.setIfInBounds_toArray, List.set_cons_zero, List.set_cons_succ]
              refine wpAnyH_ready (rs := [21]) (by kernel_rfl) (by simp) ?_
              refine AllReadyH.cons (i := 21) rfl (fun K hK => ?_) ?_
              · go_simp
                refine (rquote_s Hsok.out A4 c4 _ (G4.out.below HX3.chg)).mono ?_
                rintro e w4 ⟨rfl, hb⟩
                have HX4 := HX3.below hb
                clear hb HX3
                try go_simp
                try clear hHeld
                refine hK.out _ _ HX4.S (fun hHeld => ?_)
                clear hK K
                try simp only [List.getElem_toArray, List.getElem_cons_zero, List.getElem_cons_succ, Act.put, List.setIfInBounds_toArray, List.set_cons_zero, List.set_cons_succ]
                refine wpAnyH_take (i := 22) (v := ?_) rfl (by kernel_rfl) (by kernel_rfl) (by kernel_rfl) (fun _ _ _ h => h) (Or.inl ⟨by rfl, ?_⟩) (by assumption) ?_
                rotate_left
                · intro w hSw; go_simp; rw [if_neg (by omega)]
                try simp only [List.getElem_toArray, List.getElem_cons_zero, List.getElem_cons_succ, Act.put, List.setIfInBounds_toArray, List.set_cons_zero, List.set_cons_succ]
                refine wpAnyH_take (i := 23) (v := ?_) rfl (by kernel_rfl) (by kernel_rfl) (by kernel_rfl) (fun _ _ _ h => h) (Or.inl ⟨by rfl, ?_⟩) (by assumption) ?_
                rotate_left
                · intro w hSw; go_simp; rw [if_neg (by omega)]
                try simp only [List.getElem_toArray, List.getElem_cons_zero, List.getElem_cons_succ, Act.put, List.setIfInBounds_toArray, List.set_cons_zero, List.set_cons_succ]
                refine wpAnyH_ready (rs := [27]) (by kernel_rfl) (by simp) ?_
                refine AllReadyH.cons (i := 27) rfl (fun K hK => ?_) ?_
                · go_simp
                  refine (itoa_any _ _ (ht.below HX4.chg hB) Hsok.out.j0.1 Hsok.out.j0.2).mono ?_
                  rintro e w5 ⟨rfl, hb⟩
                  have HX5 := HX4.below hb
                  clear hb HX4
                  try go_simp
                  try clear hHeld
                  refine hK.out _ _ HX5.S (fun hHeld => ?_)
                  clear hK K
                  try simp only [List.getElem_toArray, List.getElem_cons_zero, List.getElem_cons_succ, Act.put, List.setIfInBounds_toArray, List.set_cons_zero, List.set_cons_succ]
                  refine wpAnyH_take (i := 28) (v := ?_) rfl (by kernel_rfl) (by kernel_rfl) (by kernel_rfl) (fun _ _ _ h => h) (Or.inl ⟨by rfl, ?_⟩) (by assumption) ?_
                  rotate_left
                  · intro w hSw; go_simp; rw [if_neg (by omega)]
                  try simp only [List.getElem_toArray, List.getElem_cons_zero, List.getElem_cons_succ, Act.put, List.setIfInBounds_toArray, List.set_cons_zero, List.set_cons_succ]
                  refine wpAnyH_take (i := 29) (v := ?_) rfl (by kernel_rfl) (by kernel_rfl) (by kernel_rfl) (fun _ _ _ h => h) (Or.inl ⟨by rfl, ?_⟩) (by assumption) ?_
                  rotate_left
                  · intro w hSw; go_simp; rw [if_neg (by omega)]
                  try simp only [List.getElem_toArray, List.getElem_cons_zero, List.getElem_cons_succ, Act.put, List.setIfInBounds_toArray, List.set_cons_zero, List.set_cons_succ]
                  refine wpAnyH_ready (rs := [33]) (by kernel_rfl) (by simp) ?_
                  refine AllReadyH.cons (i := 33) rfl (fun K hK => ?_) ?_
                  · go_simp
                    refine (itoa_any _ _ (ht.below HX5.chg hB) Hsok.out.j1.1 Hsok.out.j1.2).mono ?_
                    rintro e w6 ⟨rfl, hb⟩
                    have HX6 := HX5.below hb
                    clear hb HX5
                    try go_simp
                    try clear hHeld
                    refine hK.out _ _ HX6.S (fun hHeld => ?_)
                    clear hK K
                    try simp only [List.getElem_toArray, List.getElem_cons_zero, List.getElem_cons_succ, Act.put, List.setIfInBounds_toArray, List.set_cons_zero, List.set_cons_succ]
                    refine wpAnyH_take (i := 34) (v := ?_) rfl (by kernel_rfl) (by kernel_rfl) (by kernel_rfl) (fun _ _ _ h => h) (Or.inl ⟨by rfl, ?_⟩) (by assumption) ?_
                    rotate_left
                    · intro w hSw; go_simp; rw [if_neg (by omega)]
                    try simp only [List.getElem_toArray, List.getElem_cons_zero, List.getElem_cons_succ, Act.put, List.setIfInBounds_toArray, List.set_cons_zero, List.set_cons_succ]
                    refine wpAnyH_take (i := 35) (v := ?_) rfl (by kernel_rfl) (by kernel_rfl) (by kernel_rfl) (fun _ _ _ h => h) (Or.inl ⟨by rfl, ?_⟩) (by assumption) ?_
                    rotate_left
                    · intro w hSw; go_simp; rw [if_neg (by omega)]
                    try simp only [List.getElem_toArray, List.getElem_cons_zero, List.getElem_cons_succ, Act.put, List.setIfInBounds_toArray, List.set_cons_zero, List.set_cons_succ]
                    refine wpAnyH_ready (rs := [39]) (by kernel_rfl) (by simp) ?_
                    refine AllReadyH.cons (i := 39) rfl (fun K hK => ?_) ?_
                    · go_simp
                      refine (itoa_any _ _ (ht.below HX6.chg hB) Hsok.out.j2.1 Hsok.out.j2.2).mono ?_
                      rintro e w7 ⟨rfl, hb⟩
                      have HX7 := HX6.below hb
                      clear hb HX6
                      try go_simp
                      try clear hHeld
                      refine hK.out _ _ HX7.S (fun hHeld => ?_)
                      clear hK K
                      try simp only [List.getElem_toArray, List.getElem_cons_zero, List.getElem_cons_succ, Act.put, List.setIfInBounds_toArray, List.set_cons_zero, List.set_cons_succ]
                      refine wpAnyH_take (i := 40) (v := ?_) rfl (by kernel_rfl) (by kernel_rfl) (by kernel_rfl) (fun _ _ _ h => h) (Or.inl ⟨by rfl, ?_⟩) (by assumption) ?_
                      rotate_left
                      · intro w hSw; go_simp; rw [if_neg (by omega)]
                      try simp only [List.getElem_toArray, List.getElem_cons_zero, List.getElem_cons_succ, Act.put, List.setIfInBounds_toArray, List.set_cons_zero, List.set_cons_succ]
                      refine wpAnyH_take (i := 41) (v := ?_) rfl (by kernel_rfl) (by kernel_rfl) (by kernel_rfl) (fun _ _ _ h => h) (Or.inl ⟨by rfl, ?_⟩) (by assumption) ?_
                      rotate_left
                      · intro w hSw; go_simp; rw [if_neg (by omega)]
                      try simp only [List.getElem_toArray, List.getElem_cons_zero, List.getElem_cons_succ, Act.put, List.setIfInBounds_toArray, List.set_cons_zero, List.set_cons_succ]
                      refine wpAnyH_ready (rs := [45]) (by kernel_rfl) (by simp) ?_
                      refine AllReadyH.cons (i := 45) rfl (fun K hK => ?_) ?_
                      · go_simp
                        refine (itoa_any _ _ (ht.below HX7.chg hB) Hsok.out.j3.1 Hsok.out.j3.2).mono ?_
                        rintro e w8 ⟨rfl, hb⟩
                        have HX8 := HX7.below hb
                        clear hb HX7
                        try go_simp
                        try clear hHeld
                        refine hK.out _ _ HX8.S (fun hHeld => ?_)
                        clear hK K
                        try simp only [List.getElem_toArray, List.getElem_cons_zero, List.getElem_cons_succ, Act.put, List.setIfInBounds_toArray, List.set_cons_zero, List.set_cons_succ]
                        refine wpAnyH_take (i := 46) (v := ?_) rfl (by kernel_rfl) (by kernel_rfl) (by kernel_rfl) (fun _ _ _ h => h) (Or.inl ⟨by rfl, ?_⟩) (by assumption) ?_
                        rotate_left
                        · intro w hSw; go_simp; rw [if_neg (by omega)]
                        try simp only [List.getElem_toArray, List.getElem_cons_zero, List.getElem_cons_succ, Act.put, List.setIfInBounds_toArray, List.set_cons_zero, List.set_cons_succ]
                        refine wpAnyH_take (i := 47) (v := ?_) rfl (by kernel_rfl) (by kernel_rfl) (by kernel_rfl) (fun _ _ _ h => h) (Or.inl ⟨by rfl, ?_⟩) (by assumption) ?_
                        rotate_left
                        · intro w hSw; go_simp; rw [if_neg (by omega)]
                        try simp only [List.getElem_toArray, List.getElem_cons_zero, List.getElem_cons_succ, Act.put, List.setIfInBounds_toArray, List.set_cons_zero, List.set_cons_succ]
                        refine wpAnyH_ready (rs := [51]) (by kernel_rfl) (by simp) ?_
                        refine AllReadyH.cons (i := 51) rfl (fun K hK => ?_) ?_
                        · go_simp
                          refine (itoa_any _ _ (ht.below HX8.chg hB) (len_ok Hsok.out).1 (len_ok Hsok.out).2).mono ?_
                          rintro e w9 ⟨rfl, hb⟩
                          have HX9 := HX8.below hb
                          clear hb HX8
                          try go_simp
                          try clear hHeld
                          refine hK.out _ _ HX9.S (fun hHeld => ?_)
                          clear hK K
                          try simp only [List.getElem_toArray, List.getElem_cons_zero, List.getElem_cons_succ, Act.put, List.setIfInBounds_toArray, List.set_cons_zero, List.set_cons_succ]
                          refine wpAnyH_take (i := 52) (v := ?_) rfl (by kernel_rfl) (by kernel_rfl) (by kernel_rfl) (fun _ _ _ h => h) (Or.inl ⟨by rfl, ?_⟩) (by assumption) ?_
                          rotate_left
                          · intro w hSw; go_simp; rw [if_neg (by omega)]
                          try simp only [List.getElem_toArray, List.getElem_cons_zero, List.getElem_cons_succ, Act.put, List.setIfInBounds_toArray, List.set_cons_zero, List.set_cons_succ]
                          refine wpAnyH_ready (rs := [53]) (by kernel_rfl) (by simp) ?_
                          refine AllReadyH.cons (i := 53) rfl (fun K hK => ?_) ?_
                          · go_simp
                            try clear hHeld
                            refine hK.out _ _ HX9.S (fun hHeld => ?_)
                            clear hK K
                            try simp only [List.getElem_toArray, List.getElem_cons_zero, List.getElem_cons_succ, Act.put, List.setIfInBounds_toArray, List.set_cons_zero, List.set_cons_succ]
                            refine wpAnyH_done (by kernel_rfl) ?_ _
                            clear hHeld hL0 zL0 hL1 zL1 hL2 zL2 hL3 zL3 hL4 zL4 hL5 zL5 hL6 zL6 hL7 zL7 hL8 zL8 hL9 zL9 hL10 zL10 hL11 zL11 hL12 zL12 hL13 zL13 hL14 zL14 hL15 zL15 hL16 zL16 hL17 zL17 hL18 zL18 yL0 yL4 yL6 yL8 yL10 yL12 yL14 yL16 yL18
                            have hc5 := HX9.S.2.2.2.2.1
                            go_wp2_with fail
                            go_loopw [3, 7] (fun t i wr => ∃ j : Nat, j ≤ s.f5.length ∧ i = .int .i64 j ∧ t = .string (strA (L18 ++ p3 s j)) ∧ EB s A4 c4 A5 c5 E w wr) (fun _ i _ => s.f5.length - (intOf i).toNat)
                            case atStart => exact ⟨0, Nat.zero_le _, rfl, by simp [p3], HX9⟩
                            case round =>
                              clear HX9 hc5
                              obtain ⟨j, hj, rfl, rfl, HJ⟩ := hrel
                              have hpl := p3_le Hsok.out j
                              have hnl : s.f5.length ≤ 1048576 := Nat.le_trans (nameSum_len _) Hsok.out.ln
                              have hc5 := HJ.S.2.2.2.2.1
                              obtain ⟨M, eM⟩ : ∃ M, M = L18 ++ p3 s j := ⟨_, rfl⟩
                              have sM : M.length ≤ 400000000 := by rw [eM, List.length_append]; omega
                              rw [← eM]
                              have EM := Lib.hid eM
                              clear eM hpl
                              have zM : (strA M).size ≤ 400000000 := by rw [strA_size]; exact sM
                              by_cases hj4 : j < s.f5.length
                              · obtain ⟨x, hx⟩ : ∃ x, s.f5[j]? = some x := ⟨_, List.getElem?_eq_getElem hj4⟩
                                obtain ⟨ad5, had5, hcx⟩ := name_at G5.out HJ.chg hx
                                subst had5
                                have HX := Lib.hid (name_le Hsok.out (List.mem_of_getElem? hx))
                                have HP := Lib.hid (p3_snoc hx)
                                have hql := quote_le x.data.toList (by have := HX.out; simpa using this)
                                obtain ⟨M1, eM1⟩ : ∃ M1, M1 = M ++ [32] := ⟨_, rfl⟩
                                have hM1 : strA M ++ (⟨#[32]⟩ : ByteArray) = strA M1 := by rw [eM1]; exact strA_app _ [32]
                                have zM1 : (strA M1).size ≤ 400000001 := by rw [strA_size, eM1, List.length_append]; simp only [List.length_cons, List.length_nil]; omega
                                have hM2 : strA M1 ++ strA (quoteL x.data.toList) = strA (M1 ++ quoteL x.data.toList) := strA_app _ _
                                have zq : (strA (quoteL x.data.toList)).size ≤ 3145730 := by rw [strA_size]; exact hql
                                have HE := Lib.hid (show M1 ++ quoteL x.data.toList = L18 ++ p3 s (j + 1) by
                                  rw [eM1, EM.out, ← HP.out]
                                  simp [List.append_assoc])
                                clear hx eM1
                                go_wp2_with fail
                                have HJ1 := HJ.below (conv_below wr x)
                                refine (rquote_str _ _ x _ (conv_rd wr x) HX.out).mono ?_
                                rintro e wq ⟨rfl, hb3⟩
                                have HJ2 := HJ1.below hb3
                                clear HJ HJ1 hb3 hcx hc5
                                go_wp2_with fail
                                go_roundw
                                case rel => exact ⟨j + 1, by omega, by go_num, by rw [HE.out], HJ2⟩
                                case measure => simp [intOf]; omega
                              · obtain rfl : j = s.f5.length := by omega
                                have hM1 : strA M ++ (⟨#[10]⟩ : ByteArray) = strA (M ++ [10]) := strA_app _ [10]
                                have HE := Lib.hid (show M ++ [10] = showL (l.take (k + 1)) by
                                  rw [EM.out, EL.out, ← HSN.out, showA]
                                  simp only [List.append_assoc])
                                go_wp2_with fail
                                go_roundw
                                case rel => exact ⟨k + 1, by omega, by go_num, by rw [HE.out], HJ.chg⟩
                                case measure => simp [intOf]; omega
                          exact AllReadyH.nil
                        exact AllReadyH.nil
                      exact AllReadyH.nil
                    exact AllReadyH.nil
                  exact AllReadyH.nil
                exact AllReadyH.nil
              exact AllReadyH.nil
            exact AllReadyH.nil
          exact AllReadyH.nil
        exact AllReadyH.nil
    · obtain rfl : k = l.length := by omega
      rw [List.take_length]
      go_wp2
      go_ret
      exact ⟨rfl, HI⟩

end Go.Proofs.YtnkhakomjklfmaaDoor
