/- desk's own quoting: which bytes stand for themselves, and Quote. -/
import Derived.Test.YtnkhakomjklfmaaDoorB
import Derived.Test.YtnkhakomjklfmaaDoorShelf
import Derived.StillTailTactics
namespace Go.Proofs.YtnkhakomjklfmaaDoor
set_option linter.unusedVariables false
set_option linter.unusedSimpArgs false
open Go.RowKit

/-- A byte that stands for itself. -/
def plainB (c : UInt8) : Bool := decide ((97 ≤ c.toNat ∧ c.toNat ≤ 122) ∨ (65 ≤ c.toNat ∧ c.toNat ≤ 90) ∨ (48 ≤ c.toNat ∧ c.toNat ≤ 57) ∨ c.toNat = 47 ∨ c.toNat = 46 ∨ c.toNat = 45 ∨ c.toNat = 95)

theorem idx_plain (c : UInt8) : (0 ≤ Lib.indexByte [47, 46, 45, 95] c) ↔ (c.toNat = 47 ∨ c.toNat = 46 ∨ c.toNat = 45 ∨ c.toNat = 95) := by
  have e : ∀ k : Nat, k < 256 → (c = UInt8.ofNat k ↔ c.toNat = k) := by
    intro k hk
    rw [← UInt8.toNat_inj, UInt8.toNat_ofNat']
    rw [Nat.mod_eq_of_lt hk]
  have e1 := e 47 (by decide); have e2 := e 46 (by decide); have e3 := e 45 (by decide); have e4 := e 95 (by decide)
  rw [← e1, ← e2, ← e3, ← e4]
  by_cases h1 : c = 47
  · subst h1; decide
  by_cases h2 : c = 46
  · subst h2; decide
  by_cases h3 : c = 45
  · subst h3; decide
  by_cases h4 : c = 95
  · subst h4; decide
  have g1 : ((47 : UInt8) == c) = false := by simp; exact fun h => h1 h.symm
  have g2 : ((46 : UInt8) == c) = false := by simp; exact fun h => h2 h.symm
  have g3 : ((45 : UInt8) == c) = false := by simp; exact fun h => h3 h.symm
  have g4 : ((95 : UInt8) == c) = false := by simp; exact fun h => h4 h.symm
  have : Lib.indexByte [47, 46, 45, 95] c = -1 := by
    simp [Lib.indexByte, g1, g2, g3, g4]
  rw [this]; simp; exact ⟨h1, h2, h3, h4⟩

theorem ret_bool {a b : Bool} (h : a = b) : Ending.returned (.bool a) = .returned (.bool b) := by rw [h]

set_option maxRecDepth 100000 in
theorem itself_any (c : UInt8) (w : World) : Calls Tryd.prog 23 #[.int .u8 c.toNat] w fun e w' => e = .returned (.bool (plainB c)) ∧ w = w' := by
  have h256 : c.toNat < 256 := c.toNat_lt
  have hi := idx_plain c
  have HI := Lib.hid hi
  clear hi
  go_enter Tryd.func23, Tryd.ntmps23
  go_wp2_with (go_at_call 24; refine (Tryd.strings_IndexByte _ _ _).mono ?_; rintro e w' ⟨rfl, rfl⟩)
  all_goals go_ret
  all_goals refine ⟨ret_bool ?_, rfl⟩
  all_goals rw [Bool.eq_iff_iff]; have hi := HI.out; simp [plainB, hi] <;> omega

/-- How a byte is quoted. -/
def hexB (n : Nat) : UInt8 := ([48, 49, 50, 51, 52, 53, 54, 55, 56, 57, 97, 98, 99, 100, 101, 102] : List UInt8).getD n 0
def encB (c : UInt8) : List UInt8 := if plainB c = true then [c] else [37, hexB (c.toNat / 16), hexB (c.toNat % 16)]
def strA (l : List UInt8) : ByteArray := ⟨l.toArray⟩
def quoteL (l : List UInt8) : List UInt8 := [34] ++ l.flatMap encB ++ [34]

/-- A row of bytes in memory, read from an address on. -/
def RdB (w : World) (A : Option Addr) (l : List UInt8) : Prop := ∀ j c, l[j]? = some c → ∃ ad, A = some ad ∧ w.cell? (ad.add j) = some (.int .u8 c.toNat)

theorem addr_add_block (a : Addr) (j : Nat) : (a.add j).block = a.block := by unfold Addr.add; split <;> rfl

theorem RdB.below {w w' : World} {A : Option Addr} {l : List UInt8} (h : RdB w A l) (hb : Below w.heap.size w w') : RdB w' A l := by
  intro j c hj
  obtain ⟨ad, e, hc⟩ := h j c hj
  exact ⟨ad, e, by rw [hb.cell (World.block_lt_of_cell? w _ hc)]; exact hc⟩

theorem Bld.fresh (w : World) : Bld w.heap.size none [] (w.alloc (.cells #[.pointer none, .slice none 0 0] 41)) :=
  ⟨_, _, .inl rfl, heap_alloc_new w _, World.ownsRow_nil _ _ _ _, rfl⟩

/-- The loop's state: behind k bytes the builder (the call's first block) holds what they come to. -/
structure QI (l : List UInt8) (w : World) (k : Nat) (wr : World) : Prop where
  bld : ∃ own, Bld w.heap.size own (Lib.byteCells ([34] ++ (l.take k).flatMap encB)) wr ∧ (own = none ∨ ∃ g, own = some g ∧ w.heap.size < g)
  chg : Below w.heap.size w wr

theorem QI.start {l : List UInt8} {w w1 : World} {own1 : Option Nat} (hb : Bld w.heap.size own1 ([] ++ [.int .u8 34]) w1)
    (hc : Chg (fun k => k = w.heap.size ∨ none = some k) (w.alloc (.cells #[.pointer none, .slice none 0 0] 41)) w1) (hn : NewOr (w.alloc (.cells #[.pointer none, .slice none 0 0] 41)) none own1) : QI l w 0 w1 := by
  refine ⟨⟨own1, by simpa [Lib.byteCells] using hb, ?_⟩, ?_⟩
  · rcases hn with h | ⟨g, h, hg⟩
    · exact .inl h
    · exact .inr ⟨g, h, by simp at hg; omega⟩
  · have h0 : Chg (fun k => k = w.heap.size) w (w.alloc (.cells #[.pointer none, .slice none 0 0] 41)) := (Chg.refl _ w).alloc _
    exact (h0.trans hc (fun i hi h => h.elim id (fun h => by cases h))).toBelow (Nat.le_refl _) (fun k hk e => by omega)

theorem QI.step {l : List UInt8} {w wr w1 : World} {k : Nat} {c : UInt8} {own own1 : Option Nat} (h : QI l w k wr) (hk : l[k]? = some c)
    (ho : own = none ∨ ∃ g, own = some g ∧ w.heap.size < g) (hb : Bld w.heap.size own1 (Lib.byteCells ([34] ++ (l.take k).flatMap encB) ++ Lib.byteCells (encB c)) w1)
    (hc : Chg (fun j => j = w.heap.size ∨ own = some j) wr w1) (hn : NewOr wr own own1) : QI l w (k + 1) w1 := by
  have e : l.take (k + 1) = l.take k ++ [c] := by
    rw [List.take_add_one, hk]; rfl
  refine ⟨⟨own1, ?_, ?_⟩, ?_⟩
  · rw [e]
    simpa [Lib.byteCells, List.flatMap_append] using hb
  · obtain ⟨o, hbo, hoo⟩ := h.bld
    have hsz := lt_of_heap hbo.choose_spec.choose_spec.2.1
    rcases hn with h | ⟨g, h, hg⟩
    · rw [h]; exact ho
    · exact .inr ⟨g, h, by omega⟩
  · have := hc.toBelow (B := w.heap.size) h.chg.size (fun j hj e => by
      rcases e with e | e
      · omega
      · rcases ho with h | ⟨g, h, hg⟩
        · rw [h] at e; cases e
        · rw [h] at e; injection e; omega)
    exact h.chg.trans this

theorem QI.alloc {l : List UInt8} {w wr : World} {k : Nat} (h : QI l w k wr) (o : Obj) : QI l w k (wr.alloc o).drew := by
  obtain ⟨⟨own, hb, ho⟩, hc⟩ := h
  have h1 : Chg (fun _ => False) wr (wr.alloc o).drew := ((Chg.refl _ wr).alloc o).drew
  exact ⟨⟨own, hb.chg h1 (fun h => h) (fun _ _ h => h), ho⟩, hc.trans (h1.toBelow hc.size (fun _ _ h => h))⟩
theorem three_cells (x y z : Value) : ∀ {w : World} {b : Nat} (_ : w.heap[b]? = some (.cells #[x, y, z] 5 (0, 0))), ∀ j u, [x, y, z][j]? = some u → w.cell? ((⟨b, 0, none⟩ : Addr).add j) = some u := by
  intro w b hb j u hj
  have e : ((⟨b, 0, none⟩ : Addr).add j) = ⟨b, j, none⟩ := by unfold Addr.add; split <;> simp_all
  rw [e, Lib.cell_of_heap hb]
  simpa using hj

theorem and15 : ∀ n : Nat, n < 256 → bits BinOp.and IntKind.u8 (n : Int) 15 = ((n % 16 : Nat) : Int) := by decide +kernel
theorem hex_at : ∀ n : Nat, n < 16 → ∀ h : n < (ByteArray.mk #[48, 49, 50, 51, 52, 53, 54, 55, 56, 57, 97, 98, 99, 100, 101, 102]).size, (ByteArray.mk #[48, 49, 50, 51, 52, 53, 54, 55, 56, 57, 97, 98, 99, 100, 101, 102])[n] = hexB n := by decide +kernel
theorem hex_val (i : Int) (n : Nat) (hn : n < 16) (e : i = n) (h : i.toNat < (ByteArray.mk #[48, 49, 50, 51, 52, 53, 54, 55, 56, 57, 97, 98, 99, 100, 101, 102]).size) :
    (((ByteArray.mk #[48, 49, 50, 51, 52, 53, 54, 55, 56, 57, 97, 98, 99, 100, 101, 102])[i.toNat]).toNat : Int) = ((hexB n).toNat : Int) := by
  subst e
  have := hex_at n hn h
  simp only [Int.toNat_natCast]
  rw [this]
theorem encB_le (c : UInt8) : (encB c).length ≤ 3 := by unfold encB; split <;> simp
theorem flat_le (l : List UInt8) : (l.flatMap encB).length ≤ 3 * l.length := by
  induction l with
  | nil => simp
  | cons c l ih => have := encB_le c; rw [List.flatMap_cons, List.length_append, List.length_cons]; omega
theorem cells_le (l : List UInt8) (k : Nat) (hl : l.length ≤ 1048576) : (Lib.byteCells ([34] ++ (l.take k).flatMap encB)).length ≤ 3145729 := by
  have h := flat_le (l.take k)
  have h2 : (l.take k).length ≤ l.length := by rw [List.length_take]; exact Nat.min_le_right _ _
  simp only [Lib.byteCells, List.length_map, List.length_append, List.length_cons, List.length_nil]
  omega

theorem Lib.heap_drew_alloc (w : World) (o : Obj) : (w.alloc o).drew.heap[w.heap.size]? = some o := heap_alloc_new w o
theorem Bld.isBuilder {b B : Nat} {own : Option Nat} {bs : List Value} {w : World} (h : Bld b own bs w) (hB : B ≤ b) (ho : ∀ g, own = some g → B ≤ g) : Lib.IsBuilder 41 5 B b bs w := by
  obtain ⟨p, v, hp, hk, hown, hv⟩ := h
  have hne : v.ownBlock ≠ some b := Lib.ownBlock_ne hown hk (by decide)
  have hown' : w.ownsRow B 5 1 v bs.length bs := ⟨hown.1, hown.2.imp id (fun ⟨g, cap, cur, e, _, r⟩ => ⟨g, cap, cur, e, ho g (by rw [← hv, e]; rfl), r⟩)⟩
  rcases hp with rfl | rfl
  · exact .inl ⟨hB, v, hk, hown', hne⟩
  · exact .inr ⟨hB, v, hk, hown', hne⟩
theorem QI.fin {l : List UInt8} {w wr w1 : World} {own own1 : Option Nat} (h : QI l w l.length wr)
    (ho : own = none ∨ ∃ g, own = some g ∧ w.heap.size < g) (hb : Bld w.heap.size own1 (Lib.byteCells ([34] ++ (l.take l.length).flatMap encB) ++ [.int .u8 34]) w1)
    (hc : Chg (fun j => j = w.heap.size ∨ own = some j) wr w1) (hn : NewOr wr own own1) : Lib.IsBuilder 41 5 w.heap.size w.heap.size (Lib.byteCells (quoteL l)) w1 ∧ Below w.heap.size w w1 := by
  have hlt := h.bld.choose_spec.1.lt
  refine ⟨Bld.isBuilder (own := own1) ?_ (Nat.le_refl _) ?_, ?_⟩
  · simpa [Lib.byteCells, quoteL] using hb
  · intro g hg
    rcases hn with e | ⟨g', e, hg'⟩
    · rcases ho with h | ⟨g', h, hg'⟩
      · rw [e, h] at hg; cases hg
      · rw [e, h] at hg; injection hg; omega
    · rw [e] at hg; injection hg; omega
  · exact h.chg.trans (hc.toBelow h.chg.size (fun j hj e => by
      rcases e with e | e
      · omega
      · rcases ho with h | ⟨g, h, hg⟩
        · rw [h] at e; cases e
        · rw [h] at e; injection e; omega))

set_option maxHeartbeats 4000000 in
set_option maxRecDepth 100000 in
theorem quote_any (A : Option Addr) (cap : Nat) (l : List UInt8) (w : World) (hr : RdB w A l) (hl : l.length ≤ 1048576) :
    Calls Tryd.prog 12 #[.slice A l.length cap] w fun e w' => e = .returned (.string (strA (quoteL l))) ∧ Below w.heap.size w w' := by
  have Hr := Lib.hid hr; clear hr
  go_enter Tryd.func12, Tryd.ntmps12
  go_wp2_with fail
  refine (writeByte w.heap.size none [] 34 _ (Bld.fresh w) (by simp)).mono ?_
  rintro e w1 ⟨rfl, own1, hb1, hc1, hn1⟩
  have HI1 : QI l w 0 w1 := QI.start hb1 hc1 hn1
  clear hb1 hc1 hn1
  go_wp2_with fail
  go_loopw [9] (fun i wr => ∃ k : Nat, k ≤ l.length ∧ i = .int .i64 k ∧ QI l w k wr) (fun i _ => l.length - (intOf i).toNat)
  case atStart => exact ⟨0, Nat.zero_le _, rfl, HI1⟩
  case round =>
    obtain ⟨k, hk, rfl, HI⟩ := hrel
    by_cases hlt : k < l.length
    · obtain ⟨c, hc⟩ : ∃ c, l[k]? = some c := ⟨_, List.getElem?_eq_getElem hlt⟩
      obtain ⟨ad, had, hcell⟩ := Hr.out k c hc
      subst had
      have hcw : wr.cell? (ad.add k) = some (.int .u8 c.toNat) := by
        rw [HI.chg.cell (World.block_lt_of_cell? w _ hcell)]; exact hcell
      have h256 : c.toNat < 256 := c.toNat_lt
      have hcl := cells_le l k hl
      obtain ⟨⟨own, hb, ho⟩, hch⟩ := id HI
      have Hc := Lib.hid hc
      have HO := Lib.hid ho
      have HB := Lib.hid hb
      have HCH := Lib.hid hch
      clear hc ho hcell hb hch
      by_cases hp : plainB c = true
      · go_wp2_with fail
        refine (itself_any c wr).mono ?_
        rintro e w2 ⟨rfl, rfl⟩
        go_wp2_with fail
        refine (writeByte _ own _ c.toNat wr HB.out (by omega)).mono ?_
        rintro e w2 ⟨rfl, own2, hb2, hc2, hn2⟩
        have HN : QI l w (k + 1) w2 := HI.step Hc.out HO.out (by rw [encB, if_pos hp]; exact hb2) hc2 hn2
        clear hb2 hc2 hn2
        go_wp2_with fail
        go_roundw
        case rel => exact ⟨k + 1, by omega, by go_num, HN⟩
        case measure => simp [intOf]; omega
      · go_wp2_with fail
        refine (itself_any c wr).mono ?_
        rintro e w2 ⟨rfl, rfl⟩
        go_wp2_with fail
        have q1 : (0 : Int) ≤ (c.toNat : Int) / 16 := by omega
        have q2 : (c.toNat : Int) / 16 < 16 := by omega
        have q3 : (0 : Int) ≤ bits BinOp.and IntKind.u8 (c.toNat : Int) 15 := by rw [and15 _ h256]; omega
        have q4 : bits BinOp.and IntKind.u8 (c.toNat : Int) 15 < 16 := by rw [and15 _ h256]; omega
        go_still_tail 6, (by kernel_rfl)
        change wpList _ _ _ _ _ wr.drew
        rw [hex_val _ (c.toNat / 16) (by omega) (by omega), hex_val _ (c.toNat % 16) (by omega) (and15 _ h256)]
        go_wp2_with fail
        obtain ⟨⟨own', hb', ho'⟩, hch'⟩ := id (HI.alloc (.cells #[Value.int IntKind.u8 37, Value.int IntKind.u8 ↑(hexB (c.toNat / 16)).toNat, Value.int IntKind.u8 ↑(hexB (c.toNat % 16)).toNat] 5))
        have HO' := Lib.hid ho'
        have HB' := Lib.hid hb'
        have HCH' := Lib.hid hch'
        have hsz := HI.chg.size
        clear ho' hb' hch'
        refine (write _ own' _ _ 3 3 [Value.int IntKind.u8 37, Value.int IntKind.u8 ↑(hexB (c.toNat / 16)).toNat, Value.int IntKind.u8 ↑(hexB (c.toNat % 16)).toNat] _ HB'.out rfl (by decide) ?h1 ?h2 ?h3 (by omega)).mono ?_
        case h1 => intro u hu; simp at hu; rcases hu with rfl | rfl | rfl <;> rfl
        case h2 => exact three_cells _ _ _ (Lib.heap_drew_alloc wr _)
        case h3 => exact fun e => by have := HI.bld.choose_spec.1.lt; simp at e; omega
        rintro e w2 ⟨rfl, own2, hb2, hc2, hn2⟩
        have HN : QI l w (k + 1) w2 := (HI.alloc _).step Hc.out HO'.out (by rw [encB, if_neg hp]; exact hb2) hc2 hn2
        clear hb2 hc2 hn2
        go_wp2_with fail
        go_roundw
        case rel => exact ⟨k + 1, by omega, by go_num, HN⟩
        case measure => simp [intOf]; omega
    · have hcl := cells_le l k hl
      obtain rfl : k = l.length := by omega
      obtain ⟨⟨own, hb, ho⟩, hch⟩ := id HI
      have HO := Lib.hid ho
      have HB := Lib.hid hb
      have HCH := Lib.hid hch
      clear ho hb hch
      go_wp2_with fail
      refine (writeByte _ own _ 34 wr HB.out (by omega)).mono ?_
      rintro e w2 ⟨rfl, own2, hb2, hc2, hn2⟩
      have HF := Lib.hid (QI.fin HI HO.out hb2 hc2 hn2)
      clear hb2 hc2 hn2
      go_wp2_with fail
      refine (Tryd.Builder_String_any w.heap.size w.heap.size (quoteL l) w2 HF.out.1 HF.out.2.size).mono ?_
      rintro e w3 ⟨rfl, hb3⟩
      have HG := Lib.hid (HF.out.2.trans hb3)
      clear hb3
      go_wp2
      go_ret
      exact ⟨rfl, HG.out⟩
end Go.Proofs.YtnkhakomjklfmaaDoor
