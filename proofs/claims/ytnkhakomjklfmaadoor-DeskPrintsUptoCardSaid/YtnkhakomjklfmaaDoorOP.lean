/- The arguments opened: what a reading of them holds in memory. -/
import Derived.Test.YtnkhakomjklfmaaDoorBK
import Derived.Test.YtnkhakomjklfmaaDoorShS
import Derived.Deep.Slices
import Derived.Deep.Fields
namespace Go.Proofs.YtnkhakomjklfmaaDoor
set_option linter.unusedVariables false
set_option linter.unusedSimpArgs false
open Go.RowKit Go.Sort PDeskPrints YtnkhakomjklfmaaDoorW.PrintWords Go.Deep Go.ChangeShapes Go.WideShapes

/-- An event whose parts are of their kinds. -/
structure okS0 (s : S37) : Prop where
  i0 : inI64 s.f0
  i1 : inI64 s.f1
  i2 : inI64 s.f2
  i3 : inI64 s.f3
  i4 : inI64 s.f4
  by_ : ∀ n ∈ s.f7, isByte n
section
variable {H : Type} {enc : TypeId × Value → H} {w : World}

/-- Whatever reads as a value of type T is a value of kind k, of which Q says what its bulk allows. -/
def Opn {α : Type} (enc : TypeId × Value → H) (w : World) (k : Kd α) (T : TypeId) (Q : α → Nat → Prop) : Prop :=
  ∀ n cs x, DataW.trod enc Tryd.prog w 0 (fun _ => true) true n T cs = some x → ∃ a : α, k.K w a cs ∧ Q a (Rows.uptoBulk x.1)

theorem opn_int {T : TypeId} (ht : Tryd.prog.underlying T = some (.int .i64)) : Opn enc w (Kd.int .i64) T (fun n _ => inI64 n) := by
  intro n cs x h
  obtain ⟨z, rfl, rfl, hw⟩ := DataW.trod_int ht h
  refine ⟨z, rfl, ?_⟩
  simpa [Lit.wf, IntKind.min, IntKind.max, IntKind.signed, IntKind.bits, inI64] using hw
theorem opn_u8 {T : TypeId} (ht : Tryd.prog.underlying T = some (.int .u8)) : Opn enc w (Kd.int .u8) T (fun n _ => isByte n) := by
  intro n cs x h
  obtain ⟨z, rfl, rfl, hw⟩ := DataW.trod_int ht h
  refine ⟨z, rfl, ?_⟩
  simp [Lit.wf, IntKind.min, IntKind.max, IntKind.signed, IntKind.bits] at hw
  exact ⟨hw.1, by omega⟩
theorem opn_bool {T : TypeId} (ht : Tryd.prog.underlying T = some .bool) : Opn enc w Kd.bool T (fun _ _ => True) := by
  intro n cs x h
  obtain ⟨z, rfl, rfl⟩ := DataW.trod_bool ht h
  exact ⟨z, rfl, trivial⟩
theorem opn_string {T : TypeId} (ht : Tryd.prog.underlying T = some .string) : Opn enc w Kd.string T (fun s b => s.size + 1 ≤ b) := by
  intro n cs x h
  obtain ⟨z, rfl, rfl, hw⟩ := DataW.trod_string ht h
  exact ⟨z, rfl, by rw [bulks.string_eq]; simp⟩

/-- What a slice's elements and its bulk have to do with one another. -/
def QS {α : Type} (Q : α → Nat → Prop) (xs : List α) (b : Nat) : Prop := ∃ ps : List (α × Nat), ps.map (·.1) = xs ∧ (∀ p ∈ ps, Q p.1 p.2 ∧ 1 ≤ p.2) ∧ (ps.map (·.2)).sum + 1 ≤ b
theorem QS.len {α : Type} {Q : α → Nat → Prop} {xs : List α} {b : Nat} (h : QS Q xs b) : xs.length + 1 ≤ b := by
  obtain ⟨ps, rfl, hq, hb⟩ := h
  have : ∀ ps : List (α × Nat), (∀ p ∈ ps, Q p.1 p.2 ∧ 1 ≤ p.2) → ps.length ≤ (ps.map (·.2)).sum := by
    intro ps
    induction ps with
    | nil => intro _; simp
    | cons a r ih =>
      intro hq
      have h0 := (hq a (List.mem_cons_self ..)).2
      have := ih (fun p hp => hq p (List.mem_cons_of_mem _ hp))
      simp; omega
  have := this ps hq
  simp
  omega
theorem le_sum {l : List Nat} {x : Nat} (h : x ∈ l) : x ≤ l.sum := by
  induction l with
  | nil => cases h
  | cons a r ih =>
    simp only [List.sum_cons]
    rcases List.mem_cons.1 h with rfl | h
    · omega
    · have := ih h; omega
theorem QS.mem {α : Type} {Q : α → Nat → Prop} {xs : List α} {b : Nat} (h : QS Q xs b) {a : α} (ha : a ∈ xs) : ∃ c, Q a c ∧ c ≤ b := by
  obtain ⟨ps, rfl, hq, hb⟩ := h
  obtain ⟨p, hp, rfl⟩ := List.mem_map.1 ha
  refine ⟨p.2, (hq p hp).1, ?_⟩
  have := le_sum (List.mem_map.2 ⟨p, hp, rfl⟩ : p.2 ∈ ps.map (·.2))
  omega
theorem bulk_sum (l : List (DataW H)) : Rows.uptoBulkAll l = (l.map Rows.uptoBulk).sum := by
  induction l with
  | nil => simp [Rows.uptoBulkAll]
  | cons a r ih => simp [Rows.uptoBulkAll, ih]
/-- So many elements, one behind the other. -/
theorem opn_rows {α : Type} {k : Kd α} {e : TypeId} {Q : α → Nat → Prop} (he : Opn enc w k e Q) (a : Addr) (n' : Nat) (D : Nat → DataW H) (Pl : Nat → List MemPlace) :
    ∀ len, (∀ i, i < len → ∃ cs', w.cells? 0 (a.add (i * k.sz)) k.sz = some cs' ∧ DataW.trod enc Tryd.prog w 0 (fun _ => true) true n' e cs' = some (D i, Pl i)) →
      ∃ ps : List (α × Nat), ps.length = len ∧ (∀ i p, ps[i]? = some p → Q p.1 p.2 ∧ p.2 = Rows.uptoBulk (D i) ∧ ∃ cs', k.K w p.1 cs' ∧ cs'.length = k.sz ∧ ∀ j u, cs'[j]? = some u → w.cell? (a.add (i * k.sz + j)) = some u) := by
  intro len
  induction len with
  | zero => intro _; exact ⟨[], rfl, fun i p h => by simp at h⟩
  | succ n ih =>
    intro hi
    obtain ⟨ps, hl, hp⟩ := ih (fun i h => hi i (by omega))
    obtain ⟨cs', h1, h2⟩ := hi n (by omega)
    obtain ⟨a', h3, h4⟩ := he _ _ _ h2
    obtain ⟨_, hcl, hat⟩ := World.cells?_some h1
    refine ⟨ps ++ [(a', Rows.uptoBulk (D n))], by simp [hl], fun i p h => ?_⟩
    rcases Nat.lt_or_ge i n with hlt | hge
    · rw [List.getElem?_append_left (by omega)] at h
      exact hp i p h
    · rw [List.getElem?_append_right (by omega)] at h
      have : i = n := by
        have := (List.getElem?_eq_some_iff.1 h).1
        simp at this
        omega
      subst this
      rw [hl, Nat.sub_self] at h
      simp at h
      subst h
      refine ⟨h4, rfl, cs', h3, hcl, fun j u hj => ?_⟩
      have hjl := (List.getElem?_eq_some_iff.1 hj).1
      have := hat j (by omega)
      rw [Go.Deep.add_add] at this
      rw [this]; exact hj
theorem opn_slice {α : Type} {k : Kd α} {T e : TypeId} {Q : α → Nat → Prop} (ht : Tryd.prog.underlying T = some (.slice e)) (hc : Tryd.prog.cellsOf e = k.sz) (he : Opn enc w k e Q) :
    Opn enc w (Kd.slice e k) T (QS Q) := by
  intro n cs x h
  rcases open_slice ht h with ⟨rfl, rfl⟩ | ⟨a, len, cap, m, n', D, Pl, rfl, hb, hl, hm, hmm, rfl, hi⟩
  · refine ⟨[], ⟨none, 0, rfl, Nat.le_refl _, Kd.C_nil k w⟩, ?_⟩
    exact ⟨([] : List (α × Nat)), rfl, fun p h => (List.not_mem_nil h).elim, by show 0 + 1 ≤ Rows.uptoBulk (DataW.nil : DataW H); simp [Rows.uptoBulk]⟩
  · have hml : len ≤ m := by rw [hmm]; split <;> omega
    rw [hc] at hi
    obtain ⟨ps, hpl, hp⟩ := opn_rows he a n' D Pl len (fun i h => hi i (by omega))
    have hsum : ps.map (·.2) = (List.range len).map fun i => Rows.uptoBulk (D i) := by
      apply List.ext_getElem?
      intro i
      by_cases hil : i < len
      · obtain ⟨p, hpi⟩ : ∃ p, ps[i]? = some p := ⟨_, List.getElem?_eq_getElem (by omega)⟩
        simp [hpi, (hp i p hpi).2.1, hil]
      · rw [List.getElem?_eq_none (by simp; omega), List.getElem?_eq_none (by simp; omega)]
    refine ⟨ps.map (·.1), ⟨some a, cap, by simp [hpl], by simp [hpl, hl], ?_⟩, ps, rfl, fun p hp' => ?_, ?_⟩
    · refine ⟨rfl, by simp only [maxLen] at hm; simp [hpl]; omega, fun _ => ⟨a, rfl, fun j p hj => ?_⟩⟩
      rw [List.getElem?_map] at hj
      obtain ⟨q, hq, rfl⟩ := Option.map_eq_some_iff.1 hj
      obtain ⟨_, _, cs', h3, h4, h5⟩ := hp j q hq
      exact ⟨cs', h4, h3, h5⟩
    · obtain ⟨i, hi', rfl⟩ := List.getElem_of_mem hp'
      obtain ⟨h1, h2, _⟩ := hp i _ (List.getElem?_eq_getElem hi')
      exact ⟨h1, by rw [h2]; exact bulks.one_le _⟩
    · simp only [Rows.uptoBulk]
      rw [hsum, bulk_sum, List.map_map]
      simp only [Function.comp_def]
      omega

theorem fields_one {fs : Array Field} {cs : List Value} {ys : List (DataW H × List MemPlace)} {m : Nat} (hone : oneCellFields Tryd.prog fs = true) (hcl : fs.size ≤ cs.length) (hyl : ys.length = fs.size)
    (hf : ∀ (i : Nat) (f : Field), fs[i]? = some f → DataW.trod enc Tryd.prog w 0 (fun _ => true) true m f.type ((cs.drop f.offset).take (Tryd.prog.cellsOf f.type)) = ys[i]?) :
    ∀ (i : Nat) (f : Field), fs[i]? = some f → ∃ c y, cs[i]? = some c ∧ ys[i]? = some y ∧ DataW.trod enc Tryd.prog w 0 (fun _ => true) true m f.type [c] = some y := by
  intro i f hi
  obtain ⟨ho, hk⟩ := hone_of hone i f hi
  have hil := (Array.getElem?_eq_some_iff.1 hi).1
  have h1 := hf i f hi
  rw [ho, hk, List.drop_eq_getElem_cons (by omega)] at h1
  refine ⟨_, _, List.getElem?_eq_getElem (by omega), List.getElem?_eq_getElem (by omega), ?_⟩
  rw [List.getElem?_eq_getElem (by omega)] at h1
  exact h1
theorem list8 {α : Type} {l : List α} {a0 a1 a2 a3 a4 a5 a6 a7 : α} (h : l.length = 8) (h0 : l[0]? = some a0) (h1 : l[1]? = some a1) (h2 : l[2]? = some a2) (h3 : l[3]? = some a3) (h4 : l[4]? = some a4) (h5 : l[5]? = some a5) (h6 : l[6]? = some a6) (h7 : l[7]? = some a7) : l = [a0, a1, a2, a3, a4, a5, a6, a7] := by
  match l, h with
  | [b0, b1, b2, b3, b4, b5, b6, b7], _ =>
    simp at h0 h1 h2 h3 h4 h5 h6 h7
    simp [*]
theorem list4 {α : Type} {l : List α} {a0 a1 a2 a3 : α} (h : l.length = 4) (h0 : l[0]? = some a0) (h1 : l[1]? = some a1) (h2 : l[2]? = some a2) (h3 : l[3]? = some a3) : l = [a0, a1, a2, a3] := by
  match l, h with
  | [b0, b1, b2, b3], _ =>
    simp at h0 h1 h2 h3
    simp [*]
theorem opn_37 : Opn enc w k37 37 (fun s b => okS0 s ∧ s.f5.size + s.f6.size + s.f7.length ≤ b) := by
  intro n cs x h
  obtain ⟨ys, m, _, rfl, hlen, hyl, hf⟩ := DataW.trod_struct Tryd.underlying37 h
  have hc37 : Tryd.prog.cellsOf 37 = 8 := by kernel_rfl
  rw [hc37] at hlen
  have g := fields_one (by kernel_rfl) (by rw [hlen]; exact Nat.le_refl 8) hyl hf
  obtain ⟨c0, y0, e0, z0, t0⟩ := g 0 _ rfl
  obtain ⟨c1, y1, e1, z1, t1⟩ := g 1 _ rfl
  obtain ⟨c2, y2, e2, z2, t2⟩ := g 2 _ rfl
  obtain ⟨c3, y3, e3, z3, t3⟩ := g 3 _ rfl
  obtain ⟨c4, y4, e4, z4, t4⟩ := g 4 _ rfl
  obtain ⟨c5, y5, e5, z5, t5⟩ := g 5 _ rfl
  obtain ⟨c6, y6, e6, z6, t6⟩ := g 6 _ rfl
  obtain ⟨c7, y7, e7, z7, t7⟩ := g 7 _ rfl
  obtain rfl := list8 hlen e0 e1 e2 e3 e4 e5 e6 e7
  obtain rfl := list8 hyl z0 z1 z2 z3 z4 z5 z6 z7
  obtain ⟨v0, k0, q0⟩ := opn_int (enc := enc) (w := w) Tryd.underlying3 _ _ _ t0
  obtain ⟨v1, k1, q1⟩ := opn_int (enc := enc) (w := w) Tryd.underlying3 _ _ _ t1
  obtain ⟨v2, k2, q2⟩ := opn_int (enc := enc) (w := w) Tryd.underlying3 _ _ _ t2
  obtain ⟨v3, k3, q3⟩ := opn_int (enc := enc) (w := w) Tryd.underlying3 _ _ _ t3
  obtain ⟨v4, k4, q4⟩ := opn_int (enc := enc) (w := w) Tryd.underlying3 _ _ _ t4
  obtain ⟨v5, k5, q5⟩ := opn_string (enc := enc) (w := w) Tryd.underlying9 _ _ _ t5
  obtain ⟨v6, k6, q6⟩ := opn_string (enc := enc) (w := w) Tryd.underlying9 _ _ _ t6
  obtain ⟨v7, ⟨A7, p7, k7, l7, g7⟩, q7⟩ := opn_slice (enc := enc) (w := w) (k := Kd.int .u8) Tryd.underlying33 (by kernel_rfl) (opn_u8 Tryd.underlying5) _ _ _ t7
  obtain rfl := (List.cons.inj k0).1
  obtain rfl := (List.cons.inj k1).1
  obtain rfl := (List.cons.inj k2).1
  obtain rfl := (List.cons.inj k3).1
  obtain rfl := (List.cons.inj k4).1
  obtain rfl := (List.cons.inj k5).1
  obtain rfl := (List.cons.inj k6).1
  obtain rfl := (List.cons.inj k7).1
  refine ⟨⟨v0, v1, v2, v3, v4, v5, v6, v7⟩, k37_mk w _ l7 g7, ⟨q0, q1, q2, q3, q4, fun n hn => ?_⟩, ?_⟩
  · obtain ⟨_, h1, _⟩ := q7.mem hn
    exact h1
  · have := q7.len
    simp only [Rows.uptoBulk, List.map_cons, List.map_nil, Rows.uptoBulkAll]
    omega
theorem opn_50 : Opn enc w k50 50 (fun s _ => inI64 s.f0 ∧ inI64 s.f1 ∧ inI64 s.f2 ∧ inI64 s.f3) := by
  intro n cs x h
  obtain ⟨ys, m, _, rfl, hlen, hyl, hf⟩ := DataW.trod_struct Tryd.underlying50 h
  have hc50 : Tryd.prog.cellsOf 50 = 4 := by kernel_rfl
  rw [hc50] at hlen
  have g := fields_one (by kernel_rfl) (by rw [hlen]; exact Nat.le_refl 4) hyl hf
  obtain ⟨c0, y0, e0, z0, t0⟩ := g 0 _ rfl
  obtain ⟨c1, y1, e1, z1, t1⟩ := g 1 _ rfl
  obtain ⟨c2, y2, e2, z2, t2⟩ := g 2 _ rfl
  obtain ⟨c3, y3, e3, z3, t3⟩ := g 3 _ rfl
  obtain rfl := list4 hlen e0 e1 e2 e3
  obtain ⟨v0, k0, q0⟩ := opn_int (enc := enc) (w := w) Tryd.underlying3 _ _ _ t0
  obtain ⟨v1, k1, q1⟩ := opn_int (enc := enc) (w := w) Tryd.underlying3 _ _ _ t1
  obtain ⟨v2, k2, q2⟩ := opn_int (enc := enc) (w := w) Tryd.underlying3 _ _ _ t2
  obtain ⟨v3, k3, q3⟩ := opn_int (enc := enc) (w := w) Tryd.underlying3 _ _ _ t3
  obtain rfl := (List.cons.inj k0).1
  obtain rfl := (List.cons.inj k1).1
  obtain rfl := (List.cons.inj k2).1
  obtain rfl := (List.cons.inj k3).1
  exact ⟨⟨v0, v1, v2, v3⟩, k50_mk w _, q0, q1, q2, q3⟩
theorem opn_26 : Opn enc w (Kd.int .i64) 26 (fun n _ => inI64 n) := opn_int Tryd.underlying26
theorem opn_names : Opn enc w (Kd.slice 9 Kd.string) 48 (QS fun s b => s.size + 1 ≤ b) := opn_slice Tryd.underlying48 (by kernel_rfl) (opn_string Tryd.underlying9)
theorem names_bulk {l : List ByteArray} {b : Nat} (h : QS (fun (s : ByteArray) b => s.size + 1 ≤ b) l b) : nameSum l + 1 ≤ b := by
  obtain ⟨ps, rfl, hq, hb⟩ := h
  have : ∀ ps : List (ByteArray × Nat), (∀ p ∈ ps, p.1.size + 1 ≤ p.2 ∧ 1 ≤ p.2) → nameSum (ps.map (·.1)) ≤ (ps.map (·.2)).sum := by
    intro ps
    induction ps with
    | nil => intro _; simp [nameSum]
    | cons a r ih =>
      intro hq
      have h0 := (hq a (List.mem_cons_self ..)).1
      have := ih (fun p hp => hq p (List.mem_cons_of_mem _ hp))
      simp only [nameSum, List.map_cons, List.sum_cons] at *
      omega
  have := this ps hq
  omega
/-- An answer whose parts are of their kinds. -/
structure okA0 (s : S52) : Prop where
  i0 : inI64 s.f0
  i2 : inI64 s.f2
  i3 : inI64 s.f3
  by_ : ∀ n ∈ s.f4, isByte n
  j0 : inI64 s.f6.f0
  j1 : inI64 s.f6.f1
  j2 : inI64 s.f6.f2
  j3 : inI64 s.f6.f3
theorem list7 {α : Type} {l : List α} {a0 a1 a2 a3 a4 a5 a6 : α} (h : l.length = 7) (h0 : l[0]? = some a0) (h1 : l[1]? = some a1) (h2 : l[2]? = some a2) (h3 : l[3]? = some a3) (h4 : l[4]? = some a4) (h5 : l[5]? = some a5) (h6 : l[6]? = some a6) : l = [a0, a1, a2, a3, a4, a5, a6] := by
  match l, h with
  | [b0, b1, b2, b3, b4, b5, b6], _ =>
    simp at h0 h1 h2 h3 h4 h5 h6
    simp [*]
set_option maxRecDepth 100000 in
theorem opn_52 : Opn enc w k52 52 (fun s b => okA0 s ∧ s.f4.length + nameSum s.f5 ≤ b) := by
  intro n cs x h
  obtain ⟨ys, m, _, rfl, hlen, hyl, hf⟩ := DataW.trod_struct Tryd.underlying52 h
  have hc52 : Tryd.prog.cellsOf 52 = 10 := by kernel_rfl
  have hc50 : Tryd.prog.cellsOf 50 = 4 := by kernel_rfl
  have hc1 : ∀ t ∈ [26, 4, 3, 33, 48], Tryd.prog.cellsOf t = 1 := by
    intro t ht
    simp only [List.mem_cons, List.mem_nil_iff, or_false] at ht
    rcases ht with rfl | rfl | rfl | rfl | rfl <;> kernel_rfl
  rw [hc52] at hlen
  match cs, hlen with
  | [c0, c1, c2, c3, c4, c5, c6, c7, c8, c9], _ =>
    match ys, hyl with
    | [y0, y1, y2, y3, y4, y5, y6], _ =>
      have t0 : DataW.trod enc Tryd.prog w 0 (fun _ => true) true m 26 (([c0, c1, c2, c3, c4, c5, c6, c7, c8, c9].drop 0).take (Tryd.prog.cellsOf 26)) = some y0 := hf 0 _ rfl
      rw [hc1 26 (by simp)] at t0
      have t1 : DataW.trod enc Tryd.prog w 0 (fun _ => true) true m 4 (([c0, c1, c2, c3, c4, c5, c6, c7, c8, c9].drop 1).take (Tryd.prog.cellsOf 4)) = some y1 := hf 1 _ rfl
      rw [hc1 4 (by simp)] at t1
      have t2 : DataW.trod enc Tryd.prog w 0 (fun _ => true) true m 3 (([c0, c1, c2, c3, c4, c5, c6, c7, c8, c9].drop 2).take (Tryd.prog.cellsOf 3)) = some y2 := hf 2 _ rfl
      rw [hc1 3 (by simp)] at t2
      have t3 : DataW.trod enc Tryd.prog w 0 (fun _ => true) true m 3 (([c0, c1, c2, c3, c4, c5, c6, c7, c8, c9].drop 3).take (Tryd.prog.cellsOf 3)) = some y3 := hf 3 _ rfl
      rw [hc1 3 (by simp)] at t3
      have t4 : DataW.trod enc Tryd.prog w 0 (fun _ => true) true m 33 (([c0, c1, c2, c3, c4, c5, c6, c7, c8, c9].drop 4).take (Tryd.prog.cellsOf 33)) = some y4 := hf 4 _ rfl
      rw [hc1 33 (by simp)] at t4
      have t5 : DataW.trod enc Tryd.prog w 0 (fun _ => true) true m 48 (([c0, c1, c2, c3, c4, c5, c6, c7, c8, c9].drop 5).take (Tryd.prog.cellsOf 48)) = some y5 := hf 5 _ rfl
      rw [hc1 48 (by simp)] at t5
      have t6 : DataW.trod enc Tryd.prog w 0 (fun _ => true) true m 50 (([c0, c1, c2, c3, c4, c5, c6, c7, c8, c9].drop 6).take (Tryd.prog.cellsOf 50)) = some y6 := hf 6 _ rfl
      rw [hc50] at t6
      obtain ⟨v0, k0, q0⟩ := opn_int (enc := enc) (w := w) Tryd.underlying26 _ _ _ t0
      obtain ⟨v1, k1, q1⟩ := opn_bool (enc := enc) (w := w) Tryd.underlying4 _ _ _ t1
      obtain ⟨v2, k2, q2⟩ := opn_int (enc := enc) (w := w) Tryd.underlying3 _ _ _ t2
      obtain ⟨v3, k3, q3⟩ := opn_int (enc := enc) (w := w) Tryd.underlying3 _ _ _ t3
      obtain ⟨v4, ⟨A4, p4, k4, l4, g4⟩, q4⟩ := opn_slice (enc := enc) (w := w) (k := Kd.int .u8) Tryd.underlying33 (by kernel_rfl) (opn_u8 Tryd.underlying5) _ _ _ t4
      obtain ⟨v5, ⟨A5, p5, k5, l5, g5⟩, q5⟩ := opn_names (enc := enc) (w := w) _ _ _ t5
      obtain ⟨v6, k6, q6⟩ := opn_50 (enc := enc) (w := w) _ _ _ t6
      have k6' : [c6, c7, c8, c9] = [.int .i64 v6.f0, .int .i64 v6.f1, .int .i64 v6.f2, .int .i64 v6.f3] := k50_open k6
      obtain rfl := (List.cons.inj (show [c0] = _ from k0)).1
      obtain rfl := (List.cons.inj (show [c1] = _ from k1)).1
      obtain rfl := (List.cons.inj (show [c2] = _ from k2)).1
      obtain rfl := (List.cons.inj (show [c3] = _ from k3)).1
      obtain rfl := (List.cons.inj (show [c4] = _ from k4)).1
      obtain rfl := (List.cons.inj (show [c5] = _ from k5)).1
      simp only [List.cons.injEq, and_true] at k6'
      obtain ⟨rfl, rfl, rfl, rfl⟩ := k6'
      refine ⟨⟨v0, v1, v2, v3, v4, v5, v6⟩, k52_mk w _ l4 g4 l5 g5, ⟨q0, q2, q3, fun n hn => ?_, q6.1, q6.2.1, q6.2.2.1, q6.2.2.2⟩, ?_⟩
      · obtain ⟨_, h1, _⟩ := q4.mem hn
        exact h1
      · have h1 := q4.len
        have h2 := names_bulk q5
        simp only [Rows.uptoBulk, List.map_cons, List.map_nil, Rows.uptoBulkAll]
        omega
theorem opn_22 : Opn enc w (Kd.slice 37 k37) 22 (QS fun s b => okS0 s ∧ s.f5.size + s.f6.size + s.f7.length ≤ b) := opn_slice Tryd.underlying22 (by kernel_rfl) opn_37
theorem opn_23 : Opn enc w (Kd.slice 52 k52) 23 (QS fun s b => okA0 s ∧ s.f4.length + nameSum s.f5 ≤ b) := opn_slice Tryd.underlying23 (by kernel_rfl) opn_52
set_option maxRecDepth 100000 in
theorem ok_events {l : List S37} {b : Nat} (h : QS (fun (s : S37) b => okS0 s ∧ s.f5.size + s.f6.size + s.f7.length ≤ b) l b) (hb : b ≤ 1048576) : ∀ s ∈ l, okS s := by
  intro s hs
  obtain ⟨c, ⟨h0, h1⟩, hc⟩ := h.mem hs
  refine ⟨⟨h0.i0, h0.i1, h0.i2, h0.i3, h0.i4, ?_, ?_, ?_⟩, h0.by_⟩
  · show s.f5.size ≤ _; omega
  · show s.f6.size ≤ _; omega
  · show (bytesI s.f7).length ≤ _; rw [bytesI_length]; omega
set_option maxRecDepth 100000 in
theorem ok_answers {l : List S52} {b : Nat} (h : QS (fun (s : S52) b => okA0 s ∧ s.f4.length + nameSum s.f5 ≤ b) l b) (hb : b ≤ 1048576) : ∀ s ∈ l, okA s := by
  intro s hs
  obtain ⟨c, ⟨h0, h1⟩, hc⟩ := h.mem hs
  exact ⟨h0.i0, h0.i2, h0.i3, h0.by_, by omega, by omega, h0.j0, h0.j1, h0.j2, h0.j3⟩
end
end Go.Proofs.YtnkhakomjklfmaaDoor
