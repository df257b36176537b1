/- The reference's quoting comes to the same letters. -/
import Derived.Test.YtnkhakomjklfmaaDoorQ
import Derived.Test.YtnkhakomjklfmaaDoorPDeskPrintsx4
import Derived.Deep.RegionHeld3
namespace Go.Proofs.YtnkhakomjklfmaaDoor
set_option linter.unusedVariables false
set_option linter.unusedSimpArgs false
open Go.RowKit Go.Sort

def plainN (n : Nat) : Bool := decide ((97 ≤ n ∧ n ≤ 122) ∨ (65 ≤ n ∧ n ≤ 90) ∨ (48 ≤ n ∧ n ≤ 57) ∨ n = 47 ∨ n = 46 ∨ n = 45 ∨ n = 95)
theorem plain_f : ∀ n : Nat, n < 256 → PDeskPrints.cambiumref26_plain.f (n : Int) = some (plainN n) := by decide +kernel
theorem refplain_any (c : UInt8) (w : World) : Calls Tryd.prog 31 #[.int .u8 c.toNat] w fun e w' => e = .returned (.bool (plainB c)) ∧ ∃ n, w' = w.drewN n :=
  (PDeskPrints.cambiumref26_plain.calls (c.toNat : Int) (plainB c) w (plain_f c.toNat c.toNat_lt)).mono fun _ _ h => ⟨h.1, h.2.out⟩

/-- What k bytes come to, behind the first mark. -/
def accL (l : List UInt8) (k : Nat) : List UInt8 := [34] ++ (l.take k).flatMap encB
theorem accL_le (l : List UInt8) (k : Nat) (hl : l.length ≤ 1048576) : (accL l k).length ≤ 3145729 := by
  have := cells_le l k hl
  simp only [Lib.byteCells, List.length_map] at this
  exact this
theorem accL_ne (l : List UInt8) (k : Nat) : accL l k ≠ [] := by simp [accL]
theorem quo16 : ∀ n : Nat, n < 256 → IntKind.u8.wrap ((n : Int) / 16) = (n : Int) / 16 := by decide +kernel
theorem tm16 : ∀ n : Nat, n < 256 → (n : Int).tmod 16 = (n : Int) % 16 := by decide +kernel
/-- The loop's state: the row that grows. -/
structure RQ (l : List UInt8) (w : World) (k : Nat) (v : Value) (wr : World) : Prop where
  own : wr.ownsRow w.heap.size 5 1 v (accL l k).length (Lib.byteCells (accL l k))
  chg : Below w.heap.size w wr
theorem own_drewN {w : World} {B e sz n : Nat} {v : Value} {xs : List Value} (h : w.ownsRow B e sz v n xs) (k : Nat) : (w.drewN k).ownsRow B e sz v n xs := h
theorem RQ.drewN {l : List UInt8} {w wr : World} {k : Nat} {v : Value} (h : RQ l w k v wr) (n : Nat) : RQ l w k v (wr.drewN n) := ⟨own_drewN h.own n, below_drewN h.chg n⟩
theorem RQ.start (l : List UInt8) (w : World) : RQ l w 0 (.slice (some ⟨w.heap.size, 0, none⟩) 1 1) (w.alloc (.cells #[.int .u8 34] 5)) := by
  refine ⟨⟨rfl, .inr ⟨w.heap.size, 1, #[.int .u8 34], rfl, Nat.le_refl _, heap_alloc_new w _, Nat.le_refl _, by unfold maxLen; decide, rfl, rfl⟩⟩, (Below.refl _ w).alloc (Nat.le_refl _) _⟩
theorem RQ.step {l : List UInt8} {w wr W w1 : World} {k m : Nat} {c : UInt8} {v v' : Value} {news : List Value} (h : RQ l w k v wr) (hk : l[k]? = some c) (hW : Below wr.heap.size wr W) (hm : (encB c).length = m) (hn : Lib.byteCells (encB c) = news)
    (HA : AppRes w.heap.size 5 1 v v' (accL l k).length m (Lib.byteCells (accL l k) ++ news) W w1) : RQ l w (k + 1) v' w1 := by
  have e : accL l (k + 1) = accL l k ++ encB c := by
    unfold accL
    rw [List.take_add_one, hk]
    simp [List.flatMap_append]
  refine ⟨?_, ?_⟩
  · have ho := HA.own
    rw [← hm, ← hn] at ho
    rw [e, List.length_append]
    rw [show Lib.byteCells (accL l k ++ encB c) = Lib.byteCells (accL l k) ++ Lib.byteCells (encB c) from List.map_append ..]
    exact ho
  · exact (h.chg.trans (hW.mono h.chg.size)).grown HA.grown (Nat.le_trans h.chg.size hW.size) (fun j hj => (h.own.lt j hj).1)
theorem one_cell (x : Value) : ∀ {w : World} {b : Nat} (_ : w.heap[b]? = some (.cells #[x] 5 (0, 0))), ∀ j u, [x][j]? = some u → w.cell? ((⟨b, 0, none⟩ : Addr).add j) = some u := by
  intro w b hb j u hj
  have e : ((⟨b, 0, none⟩ : Addr).add j) = ⟨b, j, none⟩ := by unfold Addr.add; split <;> simp_all
  rw [e, Lib.cell_of_heap hb]
  simpa using hj
theorem own_slice {w : World} {B : Nat} {v : Value} {bs : List UInt8} (h : w.ownsRow B 5 1 v bs.length (Lib.byteCells bs)) (h0 : bs ≠ []) : ∃ g cap, v = .slice (some ⟨g, 0, none⟩) bs.length cap ∧ g < w.heap.size ∧ ∀ j u, (Lib.byteCells bs)[j]? = some u → w.cell? ((⟨g, 0, none⟩ : Addr).add j) = some u := by
  rcases id h.2 with ⟨rfl, h1⟩ | ⟨g, cap, cur, rfl, _, hg, _⟩
  · exact absurd (List.eq_nil_of_length_eq_zero h1) h0
  · exact ⟨g, cap, rfl, lt_of_heap hg, h.cells (g := g) rfl⟩

/-- A row of bytes as a string. -/
theorem conv_row {W : World} {g n cap : Nat} {bs : List UInt8} (hn : bs.length = n) (hc : ∀ j u, (Lib.byteCells bs)[j]? = some u → W.cell? ((⟨g, 0, none⟩ : Addr).add j) = some u) :
    (convert 33 9 (.slice (some ⟨g, 0, none⟩) n cap)).run Tryd.prog W = .ok (.string (strA bs)) W := by
  have h := run_convert_bytes_arg (P := Tryd.prog) W 33 5 Tryd.underlying33 Tryd.underlying5 g 0 n cap (bs.map fun b => (b.toNat : Int)) (by simpa using hn) (by
    intro i hi
    have hl : i < bs.length := by omega
    have := hc i (.int .u8 (bs[i]).toNat) (by simp [Lib.byteCells, hl])
    have e : ((⟨g, 0, none⟩ : Addr).add i) = ⟨g, 0 + i, none⟩ := by unfold Addr.add; split <;> simp_all
    rw [e] at this
    rw [this]
    simp [List.getD, hl]) 9 Tryd.underlying9
  rw [h]
  have e : strOfNums (bs.map fun b => (b.toNat : Int)) = strA bs := by
    have e1 : (bs.map fun b => (b.toNat : Int)).map (fun n => UInt8.ofNat n.toNat) = bs := by
      rw [List.map_map]
      conv => rhs; rw [← List.map_id bs]
      exact List.map_congr_left (fun a _ => by simp)
    show (⟨((bs.map fun b => (b.toNat : Int)).map fun n => UInt8.ofNat n.toNat).toArray⟩ : ByteArray) = _
    rw [e1]
    rfl
  rw [e]
theorem RQ.fin {l : List UInt8} {w wr W w1 : World} {v v' : Value} (h : RQ l w l.length v wr) (hW : Below wr.heap.size wr W)
    (HA : AppRes w.heap.size 5 1 v v' (accL l l.length).length 1 (Lib.byteCells (accL l l.length) ++ [.int .u8 34]) W w1) :
    (∃ g cap, v' = .slice (some ⟨g, 0, none⟩) ((accL l l.length).length + 1) cap ∧ (convert 33 9 (.slice (some ⟨g, 0, none⟩) ((accL l l.length).length + 1) cap)).run Tryd.prog w1 = .ok (.string (strA (quoteL l))) w1) ∧ Below w.heap.size w w1 := by
  have e : accL l l.length ++ [34] = quoteL l := by simp [accL, quoteL]
  have e2 : Lib.byteCells (accL l l.length) ++ [.int .u8 34] = Lib.byteCells (accL l l.length ++ [34]) := by rw [Lib.byteCells, Lib.byteCells, List.map_append]; rfl
  have ho := HA.own
  rw [e2] at ho
  refine ⟨?_, (h.chg.trans (hW.mono h.chg.size)).grown HA.grown (Nat.le_trans h.chg.size hW.size) (fun j hj => (h.own.lt j hj).1)⟩
  obtain ⟨g, cap, rfl, _, hc⟩ := own_slice (bs := accL l l.length ++ [34]) (by simpa using ho) (by simp)
  refine ⟨g, cap, by simp, ?_⟩
  rw [← e]
  exact conv_row (by simp) hc

set_option maxHeartbeats 4000000 in
set_option maxRecDepth 100000 in
theorem refquote_any (A : Option Addr) (cap : Nat) (l : List UInt8) (w : World) (hr : RdB w A l) (hl : l.length ≤ 1048576) :
    Calls Tryd.prog 19 #[.slice A l.length cap] w fun e w' => e = .returned (.string (strA (quoteL l))) ∧ Below w.heap.size w w' := by
  obtain ⟨i0, hi, hz0, hz1, hz2⟩ := info_parts infoByte
  have Hr := Lib.hid hr; clear hr
  have HS := RQ.start l w
  go_enter Tryd.func19, Tryd.ntmps19
  go_wp2_with fail
  go_loopw [3, 4] (fun v i wr => ∃ k : Nat, k ≤ l.length ∧ i = .int .i64 k ∧ RQ l w k v wr) (fun _ i _ => l.length - (intOf i).toNat)
  case atStart => exact ⟨0, Nat.zero_le _, rfl, HS⟩
  case round =>
    clear HS
    obtain ⟨k, hk, rfl, HI⟩ := hrel
    have hcl := accL_le l k hl
    have hsz := HI.chg.size
    by_cases hlt : k < l.length
    · obtain ⟨c, hc⟩ : ∃ c, l[k]? = some c := ⟨_, List.getElem?_eq_getElem hlt⟩
      obtain ⟨ad, had, hcell⟩ := Hr.out k c hc
      subst had
      have hcw : wr.cell? (ad.add k) = some (.int .u8 c.toNat) := by
        rw [HI.chg.cell (World.block_lt_of_cell? w _ hcell)]; exact hcell
      have h256 : c.toNat < 256 := c.toNat_lt
      have Hc := Lib.hid hc
      clear hc hcell
      by_cases hp : plainB c = true
      · go_wp2_with fail
        refine (refplain_any c wr).mono ?_
        rintro e w2 ⟨rfl, nq, rfl⟩
        have h1c := Lib.hid (one_cell (.int .u8 c.toNat) (heap_alloc_new (wr.drewN nq) (.cells #[.int .u8 c.toNat] 5)))
        have hb1 : Below wr.heap.size wr ((wr.drewN nq).alloc (.cells #[.int .u8 c.toNat] 5)) := (below_drewN (Below.refl _ wr) nq).alloc (by simp) _
        have HB1 := Lib.hid hb1
        clear hb1
        go_wp2_with (at_builtin; refine wpList_append_sharp _ rfl _ _ 33 rfl w.heap.size 5 i0 (.int .u8 0) 1 1 Tryd.underlying33 hi hz0 hz1 hz2 rfl (by decide) _ _ _ rfl ((own_drewN HI.own nq).alloc _) ⟨wr.heap.size, 0, none⟩ 1 1 [.int .u8 c.toNat] rfl rfl h1c.out ?c2 ?c3 ?c4 ?c5 ?_)
        case c2 => intro u hu; simp at hu; subst hu; rfl
        case c3 => unfold maxLen; omega
        case c4 => omega
        case c5 => simp; omega
        intro v' w2 HA2
        have HN : RQ l w (k + 1) v' w2 := HI.step Hc.out HB1.out (by rw [encB, if_pos hp]; rfl) (by rw [encB, if_pos hp]; rfl) HA2
        clear HA2
        go_wp2_with fail
        go_roundw
        case rel => exact ⟨k + 1, by omega, by go_num, HN⟩
        case measure => simp [intOf]; omega
      · go_wp2_with fail
        refine (refplain_any c wr).mono ?_
        rintro e w2 ⟨rfl, nq, rfl⟩
        have q1 : (0 : Int) ≤ (c.toNat : Int) / 16 := by omega
        have q2 : (c.toNat : Int) / 16 < 16 := by omega
        have q3 : (0 : Int) ≤ (c.toNat : Int).tmod 16 := by rw [tm16 _ h256]; omega
        have q4 : (c.toNat : Int).tmod 16 < 16 := by rw [tm16 _ h256]; omega
        have q5 := quo16 c.toNat h256
        go_wp2_with fail
        have h1c := Lib.hid (three_cells (.int .u8 37) (.int .u8 (hexB (c.toNat / 16)).toNat) (.int .u8 (hexB (c.toNat % 16)).toNat) (heap_alloc_new (wr.drewN nq).drew (.cells #[.int .u8 37, .int .u8 (hexB (c.toNat / 16)).toNat, .int .u8 (hexB (c.toNat % 16)).toNat] 5)))
        have hb1 : Below wr.heap.size wr ((wr.drewN nq).drew.alloc (.cells #[.int .u8 37, .int .u8 (hexB (c.toNat / 16)).toNat, .int .u8 (hexB (c.toNat % 16)).toNat] 5)) := (below_drewN (Below.refl _ wr) nq).drew.alloc (by simp) _
        have HB1 := Lib.hid hb1
        clear hb1
        refine wp_region_held_drew (S := fun _ => True) (by kernel_rfl) trivial (fun hHeld => ?_)
        refine wpAnyH_take (i := 0) (v := ?_) rfl (by kernel_rfl) (by kernel_rfl) (by kernel_rfl) (fun _ _ _ h => h) (Or.inl ⟨by rfl, ?_⟩) (by assumption) ?_
        rotate_left
        · intro w hSw; (try dsimp only at hSw); go_simp; try with_reducible rfl
        try simp only [List.getElem_toArray, List.getElem_cons_zero, List.getElem_cons_succ, Act.put, List.setIfInBounds_toArray, List.set_cons_zero, List.set_cons_succ]
        refine wpAnyH_take (i := 1) (v := ?_) rfl (by kernel_rfl) (by kernel_rfl) (by kernel_rfl) (fun _ _ _ h => h) (Or.inl ⟨by rfl, ?_⟩) (by assumption) ?_
        rotate_left
        · intro w hSw; (try dsimp only at hSw); go_simp; try with_reducible rfl
        try simp only [List.getElem_toArray, List.getElem_cons_zero, List.getElem_cons_succ, Act.put, List.setIfInBounds_toArray, List.set_cons_zero, List.set_cons_succ]
        refine wpAnyH_take (i := 2) (v := ?_) rfl (by kernel_rfl) (by kernel_rfl) (by kernel_rfl) (fun _ _ _ h => h) (Or.inl ⟨by rfl, ?_⟩) (by assumption) ?_
        rotate_left
        · intro w hSw; (try dsimp only at hSw); go_simp; try with_reducible rfl
        try simp only [List.getElem_toArray, List.getElem_cons_zero, List.getElem_cons_succ, Act.put, List.setIfInBounds_toArray, List.set_cons_zero, List.set_cons_succ]
        refine wpAnyH_take (i := 3) (v := ?_) rfl (by kernel_rfl) (by kernel_rfl) (by kernel_rfl) (fun _ _ _ h => h) (Or.inl ⟨by rfl, ?_⟩) (by assumption) ?_
        rotate_left
        · intro w hSw; (try dsimp only at hSw); go_simp; try with_reducible rfl
        try simp only [List.getElem_toArray, List.getElem_cons_zero, List.getElem_cons_succ, Act.put, List.setIfInBounds_toArray, List.set_cons_zero, List.set_cons_succ]
        refine wpAnyH_take (i := 4) (v := ?_) rfl (by kernel_rfl) (by kernel_rfl) (by kernel_rfl) (fun _ _ _ h => h) (Or.inl ⟨by rfl, ?_⟩) (by assumption) ?_
        rotate_left
        · intro w hSw; (try dsimp only at hSw); go_simp; try with_reducible rfl
        try simp only [List.getElem_toArray, List.getElem_cons_zero, List.getElem_cons_succ, Act.put, List.setIfInBounds_toArray, List.set_cons_zero, List.set_cons_succ]
        refine wpAnyH_take (i := 5) (v := ?_) rfl (by kernel_rfl) (by kernel_rfl) (by kernel_rfl) (fun _ _ _ h => h) (Or.inl ⟨by rfl, ?_⟩) (by assumption) ?_
        rotate_left
        · intro w hSw; (try dsimp only at hSw); go_simp; try with_reducible rfl
        try simp only [List.getElem_toArray, List.getElem_cons_zero, List.getElem_cons_succ, Act.put, List.setIfInBounds_toArray, List.set_cons_zero, List.set_cons_succ]
        refine wpAnyH_take (i := 6) (v := ?_) rfl (by kernel_rfl) (by kernel_rfl) (by kernel_rfl) (fun _ _ _ h => h) (Or.inl ⟨by rfl, ?_⟩) (by assumption) ?_
        rotate_left
        · intro w hSw; (try dsimp only at hSw); go_simp; try with_reducible rfl
        try simp only [List.getElem_toArray, List.getElem_cons_zero, List.getElem_cons_succ, Act.put, List.setIfInBounds_toArray, List.set_cons_zero, List.set_cons_succ]
        rw [hex_val _ (c.toNat / 16) (by omega) (by omega), hex_val _ (c.toNat % 16) (by omega) (by rw [tm16 _ h256]; omega)]
        clear q1 q2 q3 q4 q5
        refine wpAnyH_ready (rs := [7]) (by kernel_rfl) (by simp) ?_
        refine AllReadyH.cons (i := 7) rfl (fun K hK => ?_) ?_
        · go_simp
          try clear hHeld
          refine hK.out _ _ trivial (fun hHeld => ?_)
          clear hK K
          try simp only [List.getElem_toArray, List.getElem_cons_zero, List.getElem_cons_succ, Act.put, List.setIfInBounds_toArray, List.set_cons_zero, List.set_cons_succ]
          refine wpAnyH_ready (rs := [8]) (by kernel_rfl) (by simp) ?_
          refine AllReadyH.cons (i := 8) rfl (fun K hK => ?_) ?_
          · rw [if_pos (by rfl)]
            refine wp_append_sharp _ (.tmp 25) (.tmp 32) 33 rfl w.heap.size 5 i0 (.int .u8 0) 1 1 Tryd.underlying33 hi hz0 hz1 hz2 rfl (by decide) _ _ _ rfl ((own_drewN HI.own nq).alloc _) ⟨wr.heap.size, 0, none⟩ 3 3 [.int .u8 37, .int .u8 (hexB (c.toNat / 16)).toNat, .int .u8 (hexB (c.toNat % 16)).toNat] rfl rfl h1c.out ?c2 ?c3 ?c4 ?c5 ?_
            case c2 => intro u hu; simp at hu; rcases hu with rfl | rfl | rfl <;> rfl
            case c3 => unfold maxLen; omega
            case c4 => omega
            case c5 => simp; omega
            intro v' w2 HA2
            have HN : RQ l w (k + 1) v' w2 := HI.step Hc.out HB1.out (by rw [encB, if_neg hp]; rfl) (by rw [encB, if_neg hp]; rfl) HA2
            clear HA2
            try clear hHeld
            refine hK.out _ _ trivial (fun hHeld => ?_)
            clear hK K
            try simp only [List.getElem_toArray, List.getElem_cons_zero, List.getElem_cons_succ, Act.put, List.setIfInBounds_toArray, List.set_cons_zero, List.set_cons_succ]
            refine wpAnyH_ready (rs := [9]) (by kernel_rfl) (by simp) ?_
            refine AllReadyH.cons (i := 9) rfl (fun K hK => ?_) ?_
            · go_simp
              try clear hHeld
              refine hK.out _ _ trivial (fun hHeld => ?_)
              clear hK K
              try simp only [List.getElem_toArray, List.getElem_cons_zero, List.getElem_cons_succ, Act.put, List.setIfInBounds_toArray, List.set_cons_zero, List.set_cons_succ]
              refine wpAnyH_done (by kernel_rfl) ?_ _
              go_wp2_with fail
              go_roundw
              case rel => exact ⟨k + 1, by omega, by go_num, HN⟩
              case measure => simp [intOf]; omega
            exact AllReadyH.nil
          exact AllReadyH.nil
        exact AllReadyH.nil
    · obtain rfl : k = l.length := by omega
      have h1c := Lib.hid (one_cell (.int .u8 34) (heap_alloc_new wr (.cells #[.int .u8 34] 5)))
      have hb1 := Lib.hid ((Below.refl _ wr).alloc (Nat.le_refl _) (.cells #[.int .u8 34] 5))
      go_wp2_with (at_builtin; refine wpList_append_sharp _ rfl _ _ 33 rfl w.heap.size 5 i0 (.int .u8 0) 1 1 Tryd.underlying33 hi hz0 hz1 hz2 rfl (by decide) _ _ _ rfl (HI.own.alloc _) ⟨wr.heap.size, 0, none⟩ 1 1 [.int .u8 34] rfl rfl h1c.out ?c2 ?c3 ?c4 ?c5 ?_)
      case c2 => intro u hu; simp at hu; subst hu; rfl
      case c3 => unfold maxLen; omega
      case c4 => omega
      case c5 => simp; omega
      intro v' w2 HA2
      have HF := Lib.hid (HI.fin hb1.out HA2)
      clear HA2
      obtain ⟨g, gc, rfl, hcv⟩ := HF.out.1
      go_wp2
      go_ret
      exact ⟨rfl, HF.out.2⟩
end Go.Proofs.YtnkhakomjklfmaaDoor
