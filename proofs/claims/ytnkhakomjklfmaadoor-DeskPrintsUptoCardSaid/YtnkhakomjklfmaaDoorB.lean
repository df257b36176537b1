/- Contracts of strings.Builder's writing methods at this dump, whose copyCheck ends in a refused statement. -/
import Derived.Shelf.Strings.Builder1
import Derived.WalkLawsBesides
import Derived.Test.YtnkhakomjklfmaaDoorCore
import Derived.Test.YtnkhakomjklfmaaDoorProg
namespace Go.Proofs.YtnkhakomjklfmaaDoor
set_option linter.unusedVariables false
set_option linter.unusedSimpArgs false
open Go.RowKit

theorem szBuilder : (Tryd.prog.info? 41).map (·.size) = some 2 := by kernel_rfl
theorem infoByte : (Tryd.prog.info? 5).map (fun i => (i.zero, i.size, i.bytes)) = some (some (.int .u8 0), 1, 1) := by kernel_rfl

/-- A builder in block b, its bytes in the block 'own' (none: nil). -/
def Bld (b : Nat) (own : Option Nat) (bs : List Value) (w : World) : Prop :=
  ∃ p v, (p = .pointer none ∨ p = .pointer (some ⟨b, 0, none⟩)) ∧ w.heap[b]? = some (.cells #[p, v] 41 (0, 0)) ∧ w.ownsRow 0 5 1 v bs.length bs ∧ v.ownBlock = own

set_option maxRecDepth 100000 in
theorem copyCheck_used (b : Nat) (w : World) (h0 : w.cell? ⟨b, 0, none⟩ = some (.pointer (some ⟨b, 0, none⟩))) :
    Calls Tryd.prog 27 #[.pointer (some ⟨b, 0, none⟩)] w fun e w' => e = .returned (.tuple #[]) ∧ w = w' := by
  obtain ⟨j, hj, _⟩ := Option.map_eq_some_iff.1 szBuilder
  go_enter Tryd.func27, Tryd.ntmps27
  go_wp2
  rw [Lib.run_neq_ptr_same w _ Tryd.underlying39 hj]
  go_wp2
  go_end0
  exact ⟨rfl, rfl⟩

set_option maxRecDepth 100000 in
theorem copyCheck_fresh (b : Nat) (w : World) (h0 : w.cell? ⟨b, 0, none⟩ = some (.pointer none)) (hsh : w.shape? b = some (41, 2)) (hfz : w.frozen? ⟨b, 0, none⟩ = false) :
    Calls Tryd.prog 27 #[.pointer (some ⟨b, 0, none⟩)] w fun e w' => e = .returned (.tuple #[]) ∧ w' = w.setCell ⟨b, 0, none⟩ (.pointer (some ⟨b, 0, none⟩)) := by
  obtain ⟨j, hj, hjs⟩ := Option.map_eq_some_iff.1 szBuilder
  go_enter Tryd.func27, Tryd.ntmps27
  go_wp2
  rw [Lib.run_to_unsafe w ⟨b, 0, none⟩ Tryd.underlying39 Tryd.underlying74 hj (by rw [hjs]; decide) hsh (Nat.zero_lt_succ 1)]
  simp only [Result.andThen]
  rw [Oper.upon_value]
  go_wp2
  rw [run_callFunc_extern Tryd.func39 (by kernel_rfl) (by kernel_rfl) (by kernel_rfl) (e := Extern.AbiNoEscape.same) (by kernel_rfl)]
  rw [Lib.run_noEscape]
  simp only [Result.andThen]
  rw [Oper.upon_value]
  go_wp2
  rw [Lib.run_from_unsafe w ⟨b, 0, none⟩ Tryd.underlying74 Tryd.underlying39 hj hsh (by kernel_rfl)]
  simp only [Result.andThen]
  rw [Oper.upon_value]
  go_wp2
  go_end0
  exact ⟨rfl, rfl⟩


theorem copyCheck (b : Nat) (own : Option Nat) (bs : List Value) (w : World) (h : Bld b own bs w) :
    Calls Tryd.prog 27 #[.pointer (some ⟨b, 0, none⟩)] w fun e w' => e = .returned (.tuple #[]) ∧ Bld b own bs w' ∧ Chg (fun k => k = b) w w' ∧
      ∃ v, w'.heap[b]? = some (.cells #[.pointer (some ⟨b, 0, none⟩), v] 41 (0, 0)) ∧ w'.ownsRow 0 5 1 v bs.length bs ∧ v.ownBlock = own := by
  obtain ⟨p, v, hp, hb, ho, hv⟩ := h
  have hne : v.ownBlock ≠ some b := Lib.ownBlock_ne ho hb (by decide)
  rcases hp with rfl | rfl
  · refine (copyCheck_fresh b w (by simp [World.cell?, hb]) (by simp [World.shape?, hb]) (by simp [World.frozen?, hb])).mono ?_
    rintro e w' ⟨rfl, rfl⟩
    have hb' : (w.setCell ⟨b, 0, none⟩ (.pointer (some ⟨b, 0, none⟩))).heap[b]? = some (.cells #[.pointer (some ⟨b, 0, none⟩), v] 41 (0, 0)) := by
      simp [World.setCell, Array.getElem?_modify, hb]
    have ho' : (w.setCell ⟨b, 0, none⟩ (.pointer (some ⟨b, 0, none⟩))).ownsRow 0 5 1 v bs.length bs :=
      ho.kept (row := some b) ⟨rfl, rfl, rfl, by simp [World.setCell], fun k _ hk => Below.heap_setCell _ _ _ _ (fun e => hk (by simp [e]))⟩ (Or.inr hne)
    exact ⟨rfl, ⟨_, v, Or.inr rfl, hb', ho', hv⟩, (Chg.refl (fun k => k = b) w).setCell (.inl rfl) _, v, hb', ho', hv⟩
  · refine (copyCheck_used b w (by simp [World.cell?, hb])).mono ?_
    rintro e w' ⟨rfl, rfl⟩
    exact ⟨rfl, ⟨_, v, Or.inr rfl, hb, ho, hv⟩, Chg.refl _ _, v, hb, ho, hv⟩


/-- What a writing method leaves: the new buffer laid into the builder. -/
theorem Bld.put {b : Nat} {own : Option Nat} {v v' : Value} {bs' : List Value} {w0 w1 w2 : World} (hbk : w1.heap[b]? = some (.cells #[.pointer (some ⟨b, 0, none⟩), v] 41 (0, 0)))
    (hv : v.ownBlock = own) (hne : v.ownBlock ≠ some b) (hch : Chg (fun k => k = b) w0 w1) (hgrow : w1.grownBy w2 v.ownBlock) (hown' : w2.ownsRow 0 5 1 v' bs'.length bs') (hnew : NewOr w1 v.ownBlock v'.ownBlock) :
    ∃ own', Bld b own' bs' (w2.setCell ⟨b, 1, none⟩ v') ∧ Chg (fun k => k = b ∨ own = some k) w0 (w2.setCell ⟨b, 1, none⟩ v') ∧ NewOr w0 own own' := by
  have hlt := lt_of_heap hbk
  have hb2 : w2.heap[b]? = some (.cells #[.pointer (some ⟨b, 0, none⟩), v] 41 (0, 0)) := by
    rw [hgrow.block b hlt (fun e => hne e.symm)]; exact hbk
  have hne' : v'.ownBlock ≠ some b := by
    rcases hnew with h | ⟨g, h, hg⟩
    · rw [h]; exact hne
    · rw [h]; intro e; simp at e; omega
  refine ⟨v'.ownBlock, ⟨_, v', .inr rfl, ?_, ?_, rfl⟩, ?_, ?_⟩
  · simp [World.setCell, Array.getElem?_modify, hb2]
  · exact hown'.kept (row := some b) ⟨rfl, rfl, rfl, by simp [World.setCell], fun k _ hk => Below.heap_setCell _ _ _ _ (fun e => hk (by simp [e]))⟩ (Or.inr hne')
  · exact ((hch.mono (T := fun k => k = b ∨ own = some k) (fun i _ h => .inl h)).grown hgrow (fun k hk => .inl (.inr (by rw [← hv]; exact hk)))).setCell (p := ⟨b, 1, none⟩) (.inl (.inl rfl)) _
  · rcases hnew with h | ⟨g, h, hg⟩
    · exact .inl (by rw [h, hv])
    · exact .inr ⟨g, h, Nat.le_trans hch.size hg⟩

set_option maxHeartbeats 2000000 in
set_option maxRecDepth 100000 in
theorem writeByte (b : Nat) (own : Option Nat) (bs : List Value) (c : Int) (w : World) (h : Bld b own bs w) (hlen : bs.length + 1 ≤ 140737488355328) :
    Calls Tryd.prog 25 #[.pointer (some ⟨b, 0, none⟩), .int .u8 c] w fun e w' => e = .returned .nilIface ∧
      ∃ own', Bld b own' (bs ++ [.int .u8 c]) w' ∧ Chg (fun k => k = b ∨ own = some k) w w' ∧ NewOr w own own' := by
  obtain ⟨i0, hi, hz0, hz1, hz2⟩ := info_parts infoByte
  go_enter Tryd.func25, Tryd.ntmps25
  go_wp2_with (go_at_call 27; refine (copyCheck b own bs _ h).mono ?_)
  rintro e w1 ⟨rfl, -, hch, v, hbk, hown, hv⟩
  have hne : v.ownBlock ≠ some b := Lib.ownBlock_ne hown hbk (by decide)
  have c0 : w1.cell? ⟨b, 0, none⟩ = some (.pointer (some ⟨b, 0, none⟩)) := by rw [Lib.cell_of_heap hbk]; rfl
  have c1 : w1.cell? ⟨b, 1, none⟩ = some v := by rw [Lib.cell_of_heap hbk]; rfl
  go_wp2_with (at_builtin; refine wpList_append_sharp _ rfl _ _ 33 rfl 0 5 i0 (.int .u8 0) 1 1 Tryd.underlying33 hi hz0 hz1 hz2 rfl (by decide) _ _ _ rfl (hown.alloc _) ⟨w1.heap.size, 0, none⟩ 1 1 [.int .u8 c] rfl rfl ?c1 ?c2 ?c3 ?c4 ?c5 ?_)
  case c1 =>
    intro j u hj
    match j, hj with
    | 0, hj => simp at hj; subst hj; simp [Addr.add]
  case c2 => intro u hu; simp at hu; subst hu; rfl
  case c3 => unfold maxLen; omega
  case c4 => omega
  case c5 => omega
  intro v' w2 HA
  replace HA := HA.of_alloc
  obtain ⟨g, cap, rfl⟩ := HA.sl (by decide)
  have hlt := lt_of_heap hbk
  have hb2 : w2.heap[b]? = some (.cells #[.pointer (some ⟨b, 0, none⟩), v] 41 (0, 0)) := by
    rw [HA.grown.block b hlt (fun e => hne e.symm)]; exact hbk
  have d0 : w2.cell? ⟨b, 0, none⟩ = some (.pointer (some ⟨b, 0, none⟩)) := by rw [Lib.cell_of_heap hb2]; rfl
  have d1 : w2.cell? ⟨b, 1, none⟩ = some v := by rw [Lib.cell_of_heap hb2]; rfl
  have f1 : w2.frozen? ⟨b, 1, none⟩ = false := Lib.frozen_of_heap hb2 1
  have HH := Lib.hid (Bld.put (bs' := bs ++ [.int .u8 c]) hbk hv hne hch HA.grown (by simpa using HA.own) HA.new)
  go_wp2
  go_ret
  exact ⟨rfl, HH.out⟩

set_option maxHeartbeats 2000000 in
set_option maxRecDepth 100000 in
theorem writeString (b : Nat) (own : Option Nat) (bs : List Value) (s : ByteArray) (w : World) (h : Bld b own bs w) (hlen : bs.length + s.size ≤ 140737488355328) :
    Calls Tryd.prog 13 #[.pointer (some ⟨b, 0, none⟩), .string s] w fun e w' => e = .returned (.tuple #[.int .i64 s.size, .nilIface]) ∧
      ∃ own', Bld b own' (bs ++ Lib.strCells s) w' ∧ Chg (fun k => k = b ∨ own = some k) w w' ∧ NewOr w own own' := by
  obtain ⟨i0, hi, hz0, hz1, hz2⟩ := info_parts infoByte
  go_enter Tryd.func13, Tryd.ntmps13
  go_wp2_with (go_at_call 27; refine (copyCheck b own bs _ h).mono ?_)
  rintro e w1 ⟨rfl, -, hch, v, hbk, hown, hv⟩
  have hne : v.ownBlock ≠ some b := Lib.ownBlock_ne hown hbk (by decide)
  have c0 : w1.cell? ⟨b, 0, none⟩ = some (.pointer (some ⟨b, 0, none⟩)) := by rw [Lib.cell_of_heap hbk]; rfl
  have c1 : w1.cell? ⟨b, 1, none⟩ = some v := by rw [Lib.cell_of_heap hbk]; rfl
  go_wp2_with (at_builtin; refine wpList_append_sharp_string _ rfl _ _ 33 9 rfl 0 5 i0 Tryd.underlying33 Tryd.underlying9 hi hz0 hz1 hz2 _ _ _ rfl hown s rfl ?c3 ?c4 ?c5 ?_)
  case c3 => unfold maxLen; omega
  case c4 => omega
  case c5 => omega
  intro v' w2 HA
  have hlt := lt_of_heap hbk
  have hb2 : w2.heap[b]? = some (.cells #[.pointer (some ⟨b, 0, none⟩), v] 41 (0, 0)) := by
    rw [HA.grown.block b hlt (fun e => hne e.symm)]; exact hbk
  have d0 : w2.cell? ⟨b, 0, none⟩ = some (.pointer (some ⟨b, 0, none⟩)) := by rw [Lib.cell_of_heap hb2]; rfl
  have d1 : w2.cell? ⟨b, 1, none⟩ = some v := by rw [Lib.cell_of_heap hb2]; rfl
  have f1 : w2.frozen? ⟨b, 1, none⟩ = false := Lib.frozen_of_heap hb2 1
  have HH := Lib.hid (Bld.put (bs' := bs ++ Lib.strCells s) hbk hv hne hch HA.grown (by rw [List.length_append, Lib.strCells_length]; exact HA.own) HA.new)
  obtain ⟨ao, n', cap, rfl⟩ : ∃ ao n' cap, v' = .slice ao n' cap := by
    rcases HA.own.2 with ⟨hv, _⟩ | ⟨g, cap, cur, hv, _⟩
    · exact ⟨_, _, _, hv⟩
    · exact ⟨_, _, _, hv⟩
  go_wp2
  go_ret2
  exact ⟨rfl, HH.out⟩

set_option maxHeartbeats 2000000 in
set_option maxRecDepth 100000 in
theorem write (b : Nat) (own : Option Nat) (bs : List Value) (ad : Addr) (m cp : Nat) (news : List Value) (w : World) (h : Bld b own bs w) (hm : news.length = m) (hm0 : m ≠ 0) (h1 : ∀ u ∈ news, u.oneCell' = true)
    (hnews : ∀ j u, news[j]? = some u → w.cell? (ad.add j) = some u) (hne0 : ad.block ≠ b) (hlen : bs.length + m ≤ 140737488355328) :
    Calls Tryd.prog 26 #[.pointer (some ⟨b, 0, none⟩), .slice (some ad) m cp] w fun e w' => e = .returned (.tuple #[.int .i64 m, .nilIface]) ∧
      ∃ own', Bld b own' (bs ++ news) w' ∧ Chg (fun k => k = b ∨ own = some k) w w' ∧ NewOr w own own' := by
  obtain ⟨i0, hi, hz0, hz1, hz2⟩ := info_parts infoByte
  have Hm := Lib.hid hm; clear hm
  go_enter Tryd.func26, Tryd.ntmps26
  go_wp2_with (go_at_call 27; refine (copyCheck b own bs _ h).mono ?_)
  rintro e w1 ⟨rfl, -, hch, v, hbk, hown, hv⟩
  have hne : v.ownBlock ≠ some b := Lib.ownBlock_ne hown hbk (by decide)
  have c0 : w1.cell? ⟨b, 0, none⟩ = some (.pointer (some ⟨b, 0, none⟩)) := by rw [Lib.cell_of_heap hbk]; rfl
  have c1 : w1.cell? ⟨b, 1, none⟩ = some v := by rw [Lib.cell_of_heap hbk]; rfl
  have hnews1 : ∀ j u, news[j]? = some u → w1.cell? (ad.add j) = some u := by
    intro j u hj
    have h2 := hnews j u hj
    have hab : (ad.add j).block = ad.block := by unfold Addr.add; split <;> rfl
    rw [World.cell?_of_block (w := w) (w' := w1)]
    · exact h2
    · exact hch.block _ (World.block_lt_of_cell? w _ h2) (by rw [hab]; exact hne0)
  have Hnews1 := Lib.hid hnews1; clear hnews1 hnews
  go_wp2_with (at_builtin; refine wpList_append_sharp _ rfl _ _ 33 rfl 0 5 i0 (.int .u8 0) 1 1 Tryd.underlying33 hi hz0 hz1 hz2 rfl (by decide) _ _ _ rfl hown ad m cp news rfl (by rw [Hm.out, Nat.mul_one]) Hnews1.out h1 ?c3 ?c4 ?c5 ?_)
  case c3 => unfold maxLen; omega
  case c4 => omega
  case c5 => omega
  intro v' w2 HA
  obtain ⟨g, cap, rfl⟩ := HA.sl hm0
  have hlt := lt_of_heap hbk
  have hb2 : w2.heap[b]? = some (.cells #[.pointer (some ⟨b, 0, none⟩), v] 41 (0, 0)) := by
    rw [HA.grown.block b hlt (fun e => hne e.symm)]; exact hbk
  have d0 : w2.cell? ⟨b, 0, none⟩ = some (.pointer (some ⟨b, 0, none⟩)) := by rw [Lib.cell_of_heap hb2]; rfl
  have d1 : w2.cell? ⟨b, 1, none⟩ = some v := by rw [Lib.cell_of_heap hb2]; rfl
  have f1 : w2.frozen? ⟨b, 1, none⟩ = false := Lib.frozen_of_heap hb2 1
  have HH := Lib.hid (Bld.put (bs' := bs ++ news) hbk hv hne hch HA.grown (by rw [List.length_append, Hm.out]; exact HA.own) HA.new)
  go_wp2
  go_ret2
  exact ⟨rfl, HH.out⟩

theorem Bld.chg {S : Nat → Prop} {b : Nat} {own : Option Nat} {bs : List Value} {w w' : World} (h : Bld b own bs w) (hc : Chg S w w') (hb : ¬ S b) (ho : ∀ g, own = some g → ¬ S g) : Bld b own bs w' := by
  obtain ⟨p, v, hp, hk, hown, hv⟩ := h
  refine ⟨p, v, hp, hc.at hk hb, ?_, hv⟩
  refine ⟨hown.1, hown.2.imp id ?_⟩
  rintro ⟨g, cap, cur, rfl, h0, hg, r⟩
  exact ⟨g, cap, cur, rfl, h0, hc.at hg (ho g (by rw [← hv]; rfl)), r⟩
theorem Bld.lt {b : Nat} {own : Option Nat} {bs : List Value} {w : World} (h : Bld b own bs w) : b < w.heap.size := by
  obtain ⟨p, v, hp, hk, _⟩ := h
  exact lt_of_heap hk
theorem Bld.ltOwn {b : Nat} {own : Option Nat} {bs : List Value} {w : World} (h : Bld b own bs w) : ∀ g, own = some g → g < w.heap.size := by
  obtain ⟨p, v, hp, hk, hown, hv⟩ := h
  intro g hg
  exact (hown.lt g (by rw [hv]; exact hg)).2
end Go.Proofs.YtnkhakomjklfmaaDoor
