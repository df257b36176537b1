/- desk.Show: what answers come to. -/
import Derived.Test.YtnkhakomjklfmaaDoorShS
namespace Go.Proofs.YtnkhakomjklfmaaDoor
set_option linter.unusedVariables false
set_option linter.unusedSimpArgs false
open Go.RowKit Go.Sort PDeskPrints YtnkhakomjklfmaaDoorW.PrintWords

def abox (s : S52) (A4 : Option Addr) (c4 : Nat) (A5 : Option Addr) (c5 : Nat) : Obj :=
  .cells #[.int .i64 s.f0, .bool s.f1, .int .i64 s.f2, .int .i64 s.f3, .slice A4 s.f4.length c4, .slice A5 s.f5.length c5, .int .i64 s.f6.f0, .int .i64 s.f6.f1, .int .i64 s.f6.f2, .int .i64 s.f6.f3] 52
theorem abox_at {s : S52} {A4 : Option Addr} {c4 : Nat} {A5 : Option Addr} {c5 : Nat} {w : World} {E : Nat} (h : w.heap[E]? = some (abox s A4 c4 A5 c5)) :
    (w.cell? ⟨E, 0, none⟩ = some (.int .i64 s.f0) ∧ w.cell? ⟨E, 1, none⟩ = some (.bool s.f1) ∧ w.cell? ⟨E, 2, none⟩ = some (.int .i64 s.f2) ∧ w.cell? ⟨E, 3, none⟩ = some (.int .i64 s.f3)) ∧
    w.cell? ⟨E, 4, none⟩ = some (.slice A4 s.f4.length c4) ∧ w.cell? ⟨E, 5, none⟩ = some (.slice A5 s.f5.length c5) ∧ w.cell? ⟨E, 6, none⟩ = some (.int .i64 s.f6.f0) ∧ w.cell? ⟨E, 7, none⟩ = some (.int .i64 s.f6.f1) ∧
    w.cell? ⟨E, 8, none⟩ = some (.int .i64 s.f6.f2) ∧ w.cell? ⟨E, 9, none⟩ = some (.int .i64 s.f6.f3) := by
  refine ⟨⟨?_, ?_, ?_, ?_⟩, ?_, ?_, ?_, ?_, ?_, ?_⟩ <;> (rw [Lib.cell_of_heap h]; rfl)
def row1 (s : S52) : Obj := .cells #[.int .i64 s.f0, .int .i64 (bitN s.f1), .int .i64 s.f2, .int .i64 s.f3] 3
def row2 (s : S52) : Obj := .cells #[.int .i64 s.f6.f0, .int .i64 s.f6.f1, .int .i64 s.f6.f2, .int .i64 s.f6.f3, .int .i64 s.f5.length] 3

set_option maxHeartbeats 4000000 in
set_option maxRecDepth 100000 in
theorem show_any (A : Option Addr) (cap : Nat) (l : List S52) (w : World) (ht : Tab w) (hB : 8 ≤ w.heap.size) (hr : Kd.C k52 w A l.length l) (hok : ∀ s ∈ l, okA s) (hl : l.length ≤ 60) :
    Calls Tryd.prog 8 #[.slice A l.length cap] w fun e w' => e = .returned (.string (strA (showL l))) ∧ Below w.heap.size w w' := by
  have Hr := Lib.hid hr; clear hr
  have Hok := Lib.hid hok; clear hok
  have HS := BS.start w
  go_enter Tryd.func8, Tryd.ntmps8
  go_wp2_with fail
  go_loopw [14] (fun i wr => ∃ k : Nat, k ≤ l.length ∧ i = .int .i64 k ∧ BS w (showL (l.take k)) [] wr) (fun i _ => l.length - (intOf i).toNat)
  case atStart => exact ⟨0, Nat.zero_le _, rfl, HS⟩
  case round =>
    clear HS
    obtain ⟨k, hk, rfl, HI⟩ := hrel
    have hcl := showL_le l k hl Hok.out
    have hsz := HI.chg.size
    by_cases hlt : k < l.length
    · obtain ⟨s, hs⟩ : ∃ s, l[k]? = some s := ⟨_, List.getElem?_eq_getElem hlt⟩
      have Hsok := Lib.hid (Hok.out s (List.mem_of_getElem? hs))
      have HSN := Lib.hid (showL_snoc hs)
      obtain ⟨ad, A4, c4, A5, c5, had, d0, d1, d2, d3, d4, d5, d6, d7, d8, d9, l4, g4, l5, g5⟩ := at_T52 Hr.out (k : Int) (by omega) (by omega)
      have es : rd_T52 l (k : Int) = s := by simp [rd_T52, List.getD, hs]
      rw [es] at d0 d1 d2 d3 d4 d5 d6 d7 d8 d9 g4 g5
      subst had
      simp only [Int.toNat_natCast] at d0 d1 d2 d3 d4 d5 d6 d7 d8 d9
      replace d0 := (HI.chg.cell (World.block_lt_of_cell? w _ d0)).trans d0
      replace d1 := (HI.chg.cell (World.block_lt_of_cell? w _ d1)).trans d1
      replace d2 := (HI.chg.cell (World.block_lt_of_cell? w _ d2)).trans d2
      replace d3 := (HI.chg.cell (World.block_lt_of_cell? w _ d3)).trans d3
      replace d4 := (HI.chg.cell (World.block_lt_of_cell? w _ d4)).trans d4
      replace d5 := (HI.chg.cell (World.block_lt_of_cell? w _ d5)).trans d5
      replace d6 := (HI.chg.cell (World.block_lt_of_cell? w _ d6)).trans d6
      replace d7 := (HI.chg.cell (World.block_lt_of_cell? w _ d7)).trans d7
      replace d8 := (HI.chg.cell (World.block_lt_of_cell? w _ d8)).trans d8
      replace d9 := (HI.chg.cell (World.block_lt_of_cell? w _ d9)).trans d9
      have G4 := Lib.hid (rdB_of g4 Hsok.out.by_)
      have G5 := Lib.hid g5
      generalize showL (l.take k) = c at HI HSN hcl
      clear g4 hs es l4 l5 g5
      have HI2 := HI.alloc (abox s A4 c4 A5 c5)
      unfold abox at HI2
      go_wp2_with fail
      generalize wr.heap.size = E at HI2 ⊢
      generalize wr.alloc _ = W1 at HI2 ⊢
      clear d0 d1 d2 d3 d4 d5 d6 d7 d8 d9 HI hsz
      change BS w c [(E, abox s A4 c4 A5 c5)] W1 at HI2
      have HI3 := HI2.drew
      clear HI2
      refine wp_region_held_drew (S := fun w' => w'.cell? ⟨E, 0, none⟩ = some (.int .i64 s.f0) ∧ w'.cell? ⟨E, 1, none⟩ = some (.bool s.f1) ∧ w'.cell? ⟨E, 2, none⟩ = some (.int .i64 s.f2) ∧ w'.cell? ⟨E, 3, none⟩ = some (.int .i64 s.f3)) (by kernel_rfl) (abox_at HI3.h0).1 (fun hHeld => ?_)
      refine wpAnyH_take (i := 0) (v := ?_) rfl (by kernel_rfl) (by kernel_rfl) (by kernel_rfl) (fun _ _ _ h => h) (Or.inl ⟨by rfl, ?_⟩) (by assumption) ?_
      rotate_left
      · intro w hSw; (try dsimp only at hSw); go_simp; try with_reducible rfl
      try simp only [List.getElem_toArray, List.getElem_cons_zero, List.getElem_cons_succ, Act.put, List.setIfInBounds_toArray, List.set_cons_zero, List.set_cons_succ]
      refine wpAnyH_take (i := 1) (v := ?_) rfl (by kernel_rfl) (by kernel_rfl) (by kernel_rfl) (fun _ _ _ h => h) (Or.inl ⟨by rfl, ?_⟩) (by assumption) ?_
      rotate_left
      · intro w hSw; (try dsimp only at hSw); go_simp; try with_reducible rfl
      try simp only [List.getElem_toArray, List.getElem_cons_zero, List.getElem_cons_succ, Act.put, List.setIfInBounds_toArray, List.set_cons_zero, List.set_cons_succ]
      refine wpAnyH_take (i := 2) (v := ?_) rfl (by kernel_rfl) (by kernel_rfl) (by kernel_rfl) (fun _ _ _ h => h) (Or.inl ⟨by rfl, ?_⟩) (by assumption) ?_
      rotate_left
      · intro w hSw; (try dsimp only at hSw); go_simp; try with_reducible rfl
      try simp only [List.getElem_toArray, List.getElem_cons_zero, List.getElem_cons_succ, Act.put, List.setIfInBounds_toArray, List.set_cons_zero, List.set_cons_succ]
      refine wpAnyH_take (i := 3) (v := ?_) rfl (by kernel_rfl) (by kernel_rfl) (by kernel_rfl) (fun _ _ _ h => h) (Or.inl ⟨by rfl, ?_⟩) (by assumption) ?_
      rotate_left
      · intro w hSw; (try dsimp only at hSw); go_simp; try with_reducible rfl
      try simp only [List.getElem_toArray, List.getElem_cons_zero, List.getElem_cons_succ, Act.put, List.setIfInBounds_toArray, List.set_cons_zero, List.set_cons_succ]
      refine wpAnyH_take (i := 5) (v := ?_) rfl (by kernel_rfl) (by kernel_rfl) (by kernel_rfl) (fun _ _ _ h => h) (Or.inl ⟨by rfl, ?_⟩) (by assumption) ?_
      rotate_left
      · intro w hSw; (try dsimp only at hSw); go_simp; try with_reducible rfl
      try simp only [List.getElem_toArray, List.getElem_cons_zero, List.getElem_cons_succ, Act.put, List.setIfInBounds_toArray, List.set_cons_zero, List.set_cons_succ]
      refine wpAnyH_take (i := 6) (v := ?_) rfl (by kernel_rfl) (by kernel_rfl) (by kernel_rfl) (fun _ _ _ h => h) (Or.inl ⟨by rfl, ?_⟩) (by assumption) ?_
      rotate_left
      · intro w hSw; (try dsimp only at hSw); go_simp; try with_reducible rfl
      try simp only [List.getElem_toArray, List.getElem_cons_zero, List.getElem_cons_succ, Act.put, List.setIfInBounds_toArray, List.set_cons_zero, List.set_cons_succ]
      refine wpAnyH_take (i := 7) (v := ?_) rfl (by kernel_rfl) (by kernel_rfl) (by kernel_rfl) (fun _ _ _ h => h) (Or.inl ⟨by rfl, ?_⟩) (by assumption) ?_
      rotate_left
      · intro w hSw; (try dsimp only at hSw); go_simp; try with_reducible rfl
      try simp only [List.getElem_toArray, List.getElem_cons_zero, List.getElem_cons_succ, Act.put, List.setIfInBounds_toArray, List.set_cons_zero, List.set_cons_succ]
      refine wpAnyH_take (i := 8) (v := ?_) rfl (by kernel_rfl) (by kernel_rfl) (by kernel_rfl) (fun _ _ _ h => h) (Or.inl ⟨by rfl, ?_⟩) (by assumption) ?_
      rotate_left
      · intro w hSw; (try dsimp only at hSw); go_simp; try with_reducible rfl
      try simp only [List.getElem_toArray, List.getElem_cons_zero, List.getElem_cons_succ, Act.put, List.setIfInBounds_toArray, List.set_cons_zero, List.set_cons_succ]
      refine wpAnyH_take (i := 11) (v := ?_) rfl (by kernel_rfl) (by kernel_rfl) (by kernel_rfl) (fun _ _ _ h => h) (Or.inl ⟨by rfl, ?_⟩) (by assumption) ?_
      rotate_left
      · intro w hSw; (try dsimp only at hSw); go_simp; try with_reducible rfl
      try simp only [List.getElem_toArray, List.getElem_cons_zero, List.getElem_cons_succ, Act.put, List.setIfInBounds_toArray, List.set_cons_zero, List.set_cons_succ]
      refine wpAnyH_ready (rs := [4]) (by kernel_rfl) (by simp) ?_
      refine AllReadyH.cons (i := 4) rfl (fun K hK => ?_) ?_
      · go_simp
        refine (bit_any s.f1 _).mono ?_
        rintro e w2 ⟨rfl, rfl⟩
        try go_simp
        try clear hHeld
        refine hK.out _ _ (abox_at HI3.h0).1 (fun hHeld => ?_)
        clear hK K
        try simp only [List.getElem_toArray, List.getElem_cons_zero, List.getElem_cons_succ, Act.put, List.setIfInBounds_toArray, List.set_cons_zero, List.set_cons_succ]
        refine wpAnyH_ready (rs := [9]) (by kernel_rfl) (by simp) ?_
        refine AllReadyH.cons (i := 9) rfl (fun K hK => ?_) ?_
        · go_simp
          have HI4 := HI3.alloc (row1 s)
          unfold row1 at HI4
          try clear hHeld
          refine hK.out _ _ (abox_at HI4.h1).1 (fun hHeld => ?_)
          clear hK K
          try simp only [List.getElem_toArray, List.getElem_cons_zero, List.getElem_cons_succ, Act.put, List.setIfInBounds_toArray, List.set_cons_zero, List.set_cons_succ]
          refine wpAnyH_take (i := 10) (v := ?_) rfl (by kernel_rfl) (by kernel_rfl) (by kernel_rfl) (fun _ _ _ h => h) (Or.inl ⟨by rfl, ?_⟩) (by assumption) ?_
          rotate_left
          · intro w hSw; (try dsimp only at hSw); go_simp; try with_reducible rfl
          try simp only [List.getElem_toArray, List.getElem_cons_zero, List.getElem_cons_succ, Act.put, List.setIfInBounds_toArray, List.set_cons_zero, List.set_cons_succ]
          refine wpAnyH_done (by kernel_rfl) ?_ _
          change BS w c [(W1.heap.size, row1 s), (E, abox s A4 c4 A5 c5)] (W1.alloc (row1 s)).drew at HI4
          unfold row1 at HI4
          go_wp2_with fail
          generalize W1.heap.size = R at HI4 ⊢
          generalize (W1.alloc _).drew = W2 at HI4 ⊢
          clear HI3
          change BS w c [(R, row1 s), (E, abox s A4 c4 A5 c5)] W2 at HI4
          clear hHeld
          go_loopw [29] (fun i wr => ∃ j : Nat, j ≤ 4 ∧ i = .int .i64 j ∧ BS w (c ++ p1 s j) [(R, row1 s), (E, abox s A4 c4 A5 c5)] wr) (fun i _ => 4 - (intOf i).toNat)
          case atStart => exact ⟨0, Nat.zero_le _, rfl, by simpa [p1] using HI4⟩
          case round =>
            clear HI4
            obtain ⟨j, hj, rfl, HJ⟩ := hrel
            have hpl := p1_le Hsok.out j
            by_cases hj4 : j < 4
            · obtain ⟨n, hn⟩ : ∃ n, (vals1 s)[j]? = some n := ⟨_, List.getElem?_eq_getElem (by simpa [vals1] using hj4)⟩
              have hjj : (j : Int) < 4 := by omega
              have hc : wr.cell? ⟨R, j, none⟩ = some (.int .i64 n) := by
                rw [Lib.cell_of_heap HJ.h0]
                have : j = 0 ∨ j = 1 ∨ j = 2 ∨ j = 3 := by omega
                rcases this with rfl | rfl | rfl | rfl <;> (cases hn; rfl)
              have HV := Lib.hid (vals1_ok Hsok.out n (List.mem_of_getElem? hn))
              have HP := Lib.hid (p1_snoc hn)
              clear hn
              go_wp2_with fail
              refine (itoa_any n wr (ht.below HJ.chg hB) HV.out.1 HV.out.2).mono ?_
              rintro e w3 ⟨rfl, hb3⟩
              have HJ2 := HJ.below hb3
              have hcat : strA (Lib.itoa n) ++ (⟨#[32]⟩ : ByteArray) = strA (Lib.itoa n ++ [32]) := strA_app _ [32]
              have hs1 : (strA (Lib.itoa n)).size ≤ 21 := by rw [strA_size]; exact itoa_le HV.out
              have hil := itoa_le HV.out
              clear HJ hb3 hc
              go_wp2_with fail
              refine (bs_write HJ2 (Lib.itoa n ++ [32]) (by simp only [List.length_append, List.length_cons, List.length_nil]; omega)).mono ?_
              rintro e w4 ⟨rfl, HJ3⟩
              rw [List.append_assoc, HP.out] at HJ3
              clear HJ2 hcat
              go_wp2_with fail
              go_roundw
              case rel => exact ⟨j + 1, by omega, by go_num, HJ3⟩
              case measure => simp [intOf]; omega
            · obtain rfl : j = 4 := by omega
              clear W2
              have hc4 := (abox_at HJ.h1).2.1
              go_wp2_with fail
              refine (quote_s Hsok.out A4 c4 wr (G4.out.below HJ.chg)).mono ?_
              rintro e w3 ⟨rfl, hb3⟩
              have HJ2 := HJ.below hb3
              have hdl := data_le Hsok.out
              clear HJ hb3 hc4
              go_wp2_with fail
              refine (bs_write HJ2 (quoteL (bytesI s.f4)) (by simp only [List.length_append]; omega)).mono ?_
              rintro e w4 ⟨rfl, HJ3⟩
              have HJ4 := HJ3.tail
              clear HJ2 HJ3
              have HC2 : ∃ c2, c2 = c ++ p1 s 4 ++ quoteL (bytesI s.f4) := ⟨_, rfl⟩
              obtain ⟨c2, hc2⟩ := HC2
              rw [← hc2] at HJ4
              have hcl2 : c2.length ≤ 382000000 := by rw [hc2]; simp only [List.length_append]; omega
              have HC2 := Lib.hid hc2
              clear hc2 hcl hpl hdl
              obtain ⟨c5', c6, c7, c8, c9⟩ := (abox_at HJ4.h0).2.2
              have HK := HJ4.alloc (row2 s)
              unfold row2 at HK
              go_wp2_with fail
              generalize w4.heap.size = R2 at HK ⊢
              generalize w4.alloc _ = W2 at HK ⊢
              change BS w c2 [(R2, row2 s), (E, abox s A4 c4 A5 c5)] W2 at HK
              clear c5' c6 c7 c8 c9 HJ4
              go_loopw [59] (fun i wr => ∃ j : Nat, j ≤ 5 ∧ i = .int .i64 j ∧ BS w (c2 ++ p2 s j) [(R2, row2 s), (E, abox s A4 c4 A5 c5)] wr) (fun i _ => 5 - (intOf i).toNat)
              case atStart => exact ⟨0, Nat.zero_le _, rfl, by simpa [p2] using HK⟩
              case round =>
                clear HK
                obtain ⟨j, hj, rfl, HJ⟩ := hrel
                have hpl := p2_le Hsok.out j
                by_cases hj4 : j < 5
                · obtain ⟨n, hn⟩ : ∃ n, (vals2 s)[j]? = some n := ⟨_, List.getElem?_eq_getElem (by simpa [vals2] using hj4)⟩
                  have hjj : (j : Int) < 5 := by omega
                  have hc : wr.cell? ⟨R2, j, none⟩ = some (.int .i64 n) := by
                    rw [Lib.cell_of_heap HJ.h0]
                    have : j = 0 ∨ j = 1 ∨ j = 2 ∨ j = 3 ∨ j = 4 := by omega
                    rcases this with rfl | rfl | rfl | rfl | rfl <;> (cases hn; rfl)
                  have HV := Lib.hid (vals2_ok Hsok.out n (List.mem_of_getElem? hn))
                  have HP := Lib.hid (p2_snoc hn)
                  clear hn
                  go_wp2_with fail
                  refine (itoa_any n wr (ht.below HJ.chg hB) HV.out.1 HV.out.2).mono ?_
                  rintro e w3 ⟨rfl, hb3⟩
                  have HJ2 := HJ.below hb3
                  have hcat : (⟨#[32]⟩ : ByteArray) ++ strA (Lib.itoa n) = strA (32 :: Lib.itoa n) := strA_app [32] _
                  have hs1 : (strA (Lib.itoa n)).size ≤ 21 := by rw [strA_size]; exact itoa_le HV.out
                  have hil := itoa_le HV.out
                  clear HJ hb3 hc
                  go_wp2_with fail
                  refine (bs_write HJ2 (32 :: Lib.itoa n) (by simp only [List.length_append, List.length_cons, List.length_nil]; omega)).mono ?_
                  rintro e w4 ⟨rfl, HJ3⟩
                  rw [List.append_assoc, HP.out] at HJ3
                  clear HJ2 hcat
                  go_wp2_with fail
                  go_roundw
                  case rel => exact ⟨j + 1, by omega, by go_num, HJ3⟩
                  case measure => simp [intOf]; omega
                · obtain rfl : j = 5 := by omega
                  rw [show ((5 : Nat) : Int) = 5 from rfl]
                  have hc5 := (abox_at HJ.h1).2.2.1
                  have HK := HJ.nil
                  obtain ⟨c3, hc3⟩ : ∃ c3, c3 = c2 ++ p2 s 5 := ⟨_, rfl⟩
                  rw [← hc3] at HK
                  have hcl3 : c3.length ≤ 382000110 := by rw [hc3]; simp only [List.length_append]; omega
                  have HC3 := Lib.hid hc3
                  clear hc3 hcl2 hpl HJ
                  go_wp2_with fail
                  go_loopw [71] (fun i wr => ∃ j : Nat, j ≤ s.f5.length ∧ i = .int .i64 j ∧ BS w (c3 ++ p3 s j) [] wr) (fun i _ => s.f5.length - (intOf i).toNat)
                  case atStart => exact ⟨0, Nat.zero_le _, rfl, by simpa [p3] using HK⟩
                  case round =>
                    clear HK hc5
                    obtain ⟨j, hj, rfl, HJ⟩ := hrel
                    have hpl := p3_le Hsok.out j
                    have hnl : s.f5.length ≤ 1048576 := Nat.le_trans (nameSum_len _) Hsok.out.ln
                    by_cases hj4 : j < s.f5.length
                    · obtain ⟨x, hx⟩ : ∃ x, s.f5[j]? = some x := ⟨_, List.getElem?_eq_getElem hj4⟩
                      obtain ⟨ad5, had5, hcx⟩ := name_at G5.out HJ.chg hx
                      subst had5
                      have HX := Lib.hid (name_le Hsok.out (List.mem_of_getElem? hx))
                      have HP := Lib.hid (p3_snoc hx)
                      clear hx
                      have hcv := fun (W : World) (t : ByteArray) => Lib.run_convert_string_bytes (P := Tryd.prog) W 9 33 5 t Tryd.underlying9 Tryd.underlying33 Tryd.underlying5
                      go_wp2_with fail
                      have HJ1 := HJ.below (conv_below wr x)
                      refine (quote_str _ _ x _ (conv_rd wr x) HX.out).mono ?_
                      rintro e w3 ⟨rfl, hb3⟩
                      have HJ2 := HJ1.below hb3
                      have hcat : (⟨#[32]⟩ : ByteArray) ++ strA (quoteL x.data.toList) = strA (32 :: quoteL x.data.toList) := strA_app [32] _
                      have hql := quote_le x.data.toList (by have := HX.out; simpa using this)
                      have hs1 : (strA (quoteL x.data.toList)).size ≤ 3145730 := by rw [strA_size]; exact hql
                      clear HJ HJ1 hb3 hcx hcv
                      go_wp2_with fail
                      refine (bs_write HJ2 (32 :: quoteL x.data.toList) (by simp only [List.length_append, List.length_cons, List.length_nil]; omega)).mono ?_
                      rintro e w4 ⟨rfl, HJ3⟩
                      rw [List.append_assoc, HP.out] at HJ3
                      clear HJ2 hcat
                      go_wp2_with fail
                      go_roundw
                      case rel => exact ⟨j + 1, by omega, by go_num, HJ3⟩
                      case measure => simp [intOf]; omega
                    · obtain rfl : j = s.f5.length := by omega
                      go_wp2_with fail
                      refine (bs_write HJ [10] (by simp only [List.length_append, List.length_cons, List.length_nil]; omega)).mono ?_
                      rintro e w4 ⟨rfl, HJ3⟩
                      have HE : c3 ++ p3 s s.f5.length ++ [10] = showL (l.take (k + 1)) := by
                        rw [HC3.out, HC2.out, ← HSN.out, showA]
                        simp only [List.append_assoc]
                      rw [HE] at HJ3
                      clear HE HJ
                      go_wp2_with fail
                      go_roundw
                      case rel => exact ⟨k + 1, by omega, by go_num, HJ3⟩
                      case measure => simp [intOf]; omega
        exact AllReadyH.nil
      exact AllReadyH.nil
    · obtain rfl : k = l.length := by omega
      rw [List.take_length] at HI
      go_wp2_with fail
      refine (bs_string HI).mono ?_
      rintro e w3 ⟨rfl, hb3⟩
      have HG := Lib.hid hb3
      clear hb3
      go_wp2
      go_ret
      exact ⟨rfl, HG.out⟩

end Go.Proofs.YtnkhakomjklfmaaDoor
