/- desk.Print: the lines of some events. -/
import Derived.Test.YtnkhakomjklfmaaDoorLn
import Derived.Test.YtnkhakomjklfmaaDoorR
namespace Go.Proofs.YtnkhakomjklfmaaDoor
set_option linter.unusedVariables false
set_option linter.unusedSimpArgs false
open Go.RowKit Go.Sort PDeskPrints YtnkhakomjklfmaaDoorW.PrintWords

def bytesI (l : List Int) : List UInt8 := l.map fun n => UInt8.ofNat n.toNat
def isByte (n : Int) : Prop := 0 ≤ n ∧ n < 256
def evOf (s : S37) : Ev := ⟨s.f0, s.f1, s.f2, s.f3, s.f4, s.f5, s.f6, bytesI s.f7⟩
structure okS (s : S37) : Prop where
  ev : (evOf s).ok
  by_ : ∀ n ∈ s.f7, isByte n
theorem bytesI_length (l : List Int) : (bytesI l).length = l.length := List.length_map _
theorem rdB_of {w : World} {A : Option Addr} {l : List Int} (h : (Kd.int .u8).C w A l.length l) (hb : ∀ n ∈ l, isByte n) : RdB w A (bytesI l) := by
  intro j c hj
  unfold bytesI at hj
  rw [List.getElem?_map] at hj
  obtain ⟨n, hn, rfl⟩ := Option.map_eq_some_iff.1 hj
  obtain ⟨hjl, hjn⟩ := List.getElem?_eq_some_iff.1 hn
  obtain ⟨h0, h1⟩ := hb n (List.mem_of_getElem? hn)
  obtain ⟨ad, e, hc⟩ := Kd.at_int h (i := (j : Int)) (by omega) (by omega)
  refine ⟨ad, e, ?_⟩
  rw [Int.toNat_natCast] at hc
  rw [hc]
  have : rd l (j : Int) = n := by simp [rd, List.getD, hn]
  rw [this]
  congr 2
  rw [UInt8.toNat_ofNat']
  omega

def Ev.lineN (x : Ev) : List UInt8 := x.line ++ [10]
def linesL (l : List S37) : List UInt8 := l.flatMap fun s => (evOf s).lineN
theorem line_le {x : Ev} (hx : x.ok) : x.line.length ≤ 25165848 := by
  have h := lens_le (x.wl.take (trimW x.wl Ev.none.wl 8)) 3145730 (fun s hs => Ev.wl_le hx s (List.mem_of_mem_take hs))
  have h2 : (x.wl.take (trimW x.wl Ev.none.wl 8)).length ≤ 8 := by rw [List.length_take]; simp [Ev.wl]; omega
  have : (x.wl.take (trimW x.wl Ev.none.wl 8)).length * (3145730 + 1) ≤ 8 * 3145731 := Nat.mul_le_mul h2 (Nat.le_refl _)
  unfold Ev.line
  omega

/-- desk.line at an event of the list. -/
theorem line_s (s : S37) (hs : okS s) (A : Option Addr) (cap : Nat) (w : World) (ht : Tab w) (hB : 8 ≤ w.heap.size) (hr : (Kd.int .u8).C w A s.f7.length s.f7) :
    Calls Tryd.prog 14 #[.agg #[.int .i64 s.f0, .int .i64 s.f1, .int .i64 s.f2, .int .i64 s.f3, .int .i64 s.f4, .string s.f5, .string s.f6, .slice A s.f7.length cap]] w fun e w' => e = .returned (.string (strA (evOf s).line)) ∧ Below w.heap.size w w' := by
  have h := line_any (evOf s) hs.ev A cap w ht hB (rdB_of hr hs.by_)
  have e : (evOf s).cells A cap = #[.int .i64 s.f0, .int .i64 s.f1, .int .i64 s.f2, .int .i64 s.f3, .int .i64 s.f4, .string s.f5, .string s.f6, .slice A s.f7.length cap] := by
    unfold Ev.cells evOf
    rw [bytesI_length]
  rw [e] at h
  exact h

/-- The loop's state: behind k events the builder (the call's first block) holds their lines. -/
structure PI (l : List S37) (w : World) (k : Nat) (wr : World) : Prop where
  bld : ∃ own, Bld w.heap.size own (Lib.byteCells (linesL (l.take k))) wr ∧ (own = none ∨ ∃ g, own = some g ∧ w.heap.size < g)
  chg : Below w.heap.size w wr
theorem PI.start (l : List S37) (w : World) : PI l w 0 (w.alloc (.cells #[.pointer none, .slice none 0 0] 41)) :=
  ⟨⟨none, Bld.fresh w, .inl rfl⟩, (Below.refl _ w).alloc (Nat.le_refl _) _⟩
theorem PI.below {l : List S37} {w wr w1 : World} {k : Nat} (h : PI l w k wr) (hb : Below wr.heap.size wr w1) : PI l w k w1 := by
  obtain ⟨⟨own, hB, ho⟩, hc⟩ := h
  exact ⟨⟨own, hB.chg (S := fun _ => False) (Chg.ofBelow hb) (fun h => h) (fun _ _ h => h), ho⟩, hc.trans (hb.mono hc.size)⟩
theorem PI.step {l : List S37} {w wr w1 : World} {k : Nat} {s : S37} {own own1 : Option Nat} (h : PI l w k wr) (hk : l[k]? = some s)
    (ho : own = none ∨ ∃ g, own = some g ∧ w.heap.size < g) (hb : Bld w.heap.size own1 (Lib.byteCells (linesL (l.take k)) ++ Lib.strCells (strA (evOf s).lineN)) w1)
    (hc : Chg (fun j => j = w.heap.size ∨ own = some j) wr w1) (hn : NewOr wr own own1) : PI l w (k + 1) w1 := by
  have e : linesL (l.take (k + 1)) = linesL (l.take k) ++ (evOf s).lineN := by
    unfold linesL
    rw [List.take_add_one, hk]
    simp [List.flatMap_append]
  have e2 : Lib.strCells (strA (evOf s).lineN) = Lib.byteCells (evOf s).lineN := rfl
  have hlt := h.bld.choose_spec.1.lt
  refine ⟨⟨own1, ?_, ?_⟩, ?_⟩
  · rw [e, show Lib.byteCells (linesL (l.take k) ++ (evOf s).lineN) = Lib.byteCells (linesL (l.take k)) ++ Lib.byteCells (evOf s).lineN from List.map_append .., ← e2]
    exact hb
  · rcases hn with h | ⟨g, h, hg⟩
    · rw [h]; exact ho
    · exact .inr ⟨g, h, by omega⟩
  · exact h.chg.trans (hc.toBelow h.chg.size (fun j hj e => by
      rcases e with e | e
      · omega
      · rcases ho with h | ⟨g, h, hg⟩
        · rw [h] at e; cases e
        · rw [h] at e; injection e; omega))
theorem PI.fin {l : List S37} {w wr : World} (h : PI l w l.length wr) : Lib.IsBuilder 41 5 w.heap.size w.heap.size (Lib.byteCells (linesL l)) wr ∧ Below w.heap.size w wr := by
  obtain ⟨⟨own, hb, ho⟩, hc⟩ := h
  rw [List.take_length] at hb
  exact ⟨hb.isBuilder (Nat.le_refl _) (fun g hg => by
    rcases ho with h | ⟨g', h, hg'⟩
    · rw [h] at hg; cases hg
    · rw [h] at hg; injection hg; omega), hc⟩
theorem strA_app (a b : List UInt8) : strA a ++ strA b = strA (a ++ b) := by
  apply ByteArray.ext
  simp [strA, ByteArray.data_append]
theorem flat_lines_le (l : List S37) (b : Nat) (h : ∀ s ∈ l, (evOf s).lineN.length ≤ b) : (linesL l).length ≤ l.length * b := by
  induction l with
  | nil => simp [linesL]
  | cons a r ih =>
    have h1 := h a (List.mem_cons_self ..)
    have h2 := ih (fun s hs => h s (List.mem_cons_of_mem _ hs))
    have e : linesL (a :: r) = (evOf a).lineN ++ linesL r := rfl
    rw [e, List.length_append, List.length_cons, Nat.add_mul, Nat.one_mul]
    omega
theorem lines_take_le (l : List S37) (k : Nat) (hl : l.length ≤ 60) (h : ∀ s ∈ l, okS s) : (linesL (l.take k)).length ≤ 1509950940 := by
  have h1 := flat_lines_le (l.take k) 25165849 (fun s hs => by
    have := line_le (h s (List.mem_of_mem_take hs)).ev
    simp [Ev.lineN]; omega)
  have h2 : (l.take k).length ≤ 60 := by rw [List.length_take]; omega
  have : (l.take k).length * 25165849 ≤ 60 * 25165849 := Nat.mul_le_mul h2 (Nat.le_refl _)
  omega

set_option maxHeartbeats 4000000 in
set_option maxRecDepth 100000 in
theorem print_any (A : Option Addr) (cap : Nat) (l : List S37) (w : World) (ht : Tab w) (hB : 8 ≤ w.heap.size) (hr : Kd.C k37 w A l.length l) (hok : ∀ s ∈ l, okS s) (hl : l.length ≤ 60) :
    Calls Tryd.prog 6 #[.slice A l.length cap] w fun e w' => e = .returned (.tuple #[.string (strA (linesL l)), .int .i64 0]) ∧ Below w.heap.size w w' := by
  have Hr := Lib.hid hr; clear hr
  have Hok := Lib.hid hok; clear hok
  have hgt : ¬ ((4096 : Int) < (l.length : Int)) := by omega
  have HS := PI.start l w
  go_enter Tryd.func6, Tryd.ntmps6
  go_wp2_with fail
  go_loopw [12] (fun i wr => ∃ k : Nat, k ≤ l.length ∧ i = .int .i64 k ∧ PI l w k wr) (fun i _ => l.length - (intOf i).toNat)
  case atStart => exact ⟨0, Nat.zero_le _, rfl, HS⟩
  case round =>
    clear HS
    obtain ⟨k, hk, rfl, HI⟩ := hrel
    have hcl := lines_take_le l k hl Hok.out
    have hsz := HI.chg.size
    by_cases hlt : k < l.length
    · obtain ⟨s, hs⟩ : ∃ s, l[k]? = some s := ⟨_, List.getElem?_eq_getElem hlt⟩
      have hsok := Hok.out s (List.mem_of_getElem? hs)
      obtain ⟨ad, A7, c7, had, d0, d1, d2, d3, d4, d5, d6, d7, l7, g7⟩ := at_T37 (Kd.C_below Hr.out HI.chg) (k : Int) (by omega) (by omega)
      have es : rd_T37 l (k : Int) = s := by simp [rd_T37, List.getD, hs]
      rw [es] at d0 d1 d2 d3 d4 d5 d6 d7 l7 g7
      subst had
      simp only [Int.toNat_natCast] at d0 d1 d2 d3 d4 d5 d6 d7
      have G7 := Lib.hid g7
      have Hs := Lib.hid hs
      have Hsok := Lib.hid hsok
      clear g7 hs hsok es l7
      have HI2 := HI.below ((Below.refl _ wr).alloc (Nat.le_refl _) (.cells #[.int .i64 s.f0, .int .i64 s.f1, .int .i64 s.f2, .int .i64 s.f3, .int .i64 s.f4, .string s.f5, .string s.f6, .slice A7 s.f7.length c7] 37))
      have G72 := Lib.hid (Kd.C_below G7.out ((Below.refl _ wr).alloc (Nat.le_refl _) (.cells #[.int .i64 s.f0, .int .i64 s.f1, .int .i64 s.f2, .int .i64 s.f3, .int .i64 s.f4, .string s.f5, .string s.f6, .slice A7 s.f7.length c7] 37)))
      go_wp2_with fail
      refine (line_s s Hsok.out A7 c7 _ (ht.below HI2.chg hB) (Nat.le_trans hB HI2.chg.size) G72.out).mono ?_
      rintro e w2 ⟨rfl, hb2⟩
      have HI3 := HI2.below hb2
      obtain ⟨⟨own, hb, ho⟩, hch⟩ := id HI3
      have HO := Lib.hid ho
      have HBD := Lib.hid hb
      have hll := line_le Hsok.out.ev
      have hsz : (strA (evOf s).lineN).size = (evOf s).line.length + 1 := by simp [strA, ByteArray.size, Ev.lineN]
      have hcat : strA (evOf s).line ++ (⟨#[10]⟩ : ByteArray) = strA (evOf s).lineN := strA_app _ [10]
      have HSZ := Lib.hid hsz
      have hs1 : (strA (evOf s).line).size ≤ 25165848 := by simp [strA, ByteArray.size]; omega
      clear hb2 HI2 G72 hb ho hch d0 d1 d2 d3 d4 d5 d6 d7 hsz
      go_wp2_with fail
      refine (writeString _ own _ (strA (evOf s).lineN) w2 HBD.out (by rw [HSZ.out]; simp only [Lib.byteCells, List.length_map]; omega)).mono ?_
      rintro e w3 ⟨rfl, own2, hb2, hc2, hn2⟩
      have HN : PI l w (k + 1) w3 := HI3.step Hs.out HO.out hb2 hc2 hn2
      clear hb2 hc2 hn2 hcat
      go_wp2_with fail
      go_roundw
      case rel => exact ⟨k + 1, by omega, by go_num, HN⟩
      case measure => simp [intOf]; omega
    · obtain rfl : k = l.length := by omega
      have HF := Lib.hid HI.fin
      go_wp2_with fail
      refine (Tryd.Builder_String_any w.heap.size w.heap.size (linesL l) wr HF.out.1 HF.out.2.size).mono ?_
      rintro e w3 ⟨rfl, hb3⟩
      have HG := Lib.hid (HF.out.2.trans hb3)
      clear hb3
      go_wp2
      go_ret2
      exact ⟨rfl, HG.out⟩

end Go.Proofs.YtnkhakomjklfmaaDoor
