/- desk.Unquote: letters read as bytes. -/
import Derived.Test.YtnkhakomjklfmaaDoorR
import Derived.Laws.Strings3
import Derived.Laws.DeepStrings4
namespace Go.Proofs.YtnkhakomjklfmaaDoor
set_option linter.unusedVariables false
set_option linter.unusedSimpArgs false
open Go.RowKit Go.Sort

def hexDigits : List UInt8 := [48, 49, 50, 51, 52, 53, 54, 55, 56, 57, 97, 98, 99, 100, 101, 102]
/-- What letters between the marks say; none: they are refused. -/
def unqL : List UInt8 → Option (List UInt8)
  | [] => some []
  | c :: r => if plainB c = true then (unqL r).map (c :: ·) else
    match r with
    | a :: b :: t => if c = 37 ∧ 0 ≤ Lib.indexByte hexDigits a ∧ 0 ≤ Lib.indexByte hexDigits b ∧ plainB (UInt8.ofNat (Lib.indexByte hexDigits a * 16 + Lib.indexByte hexDigits b).toNat) = false then (unqL t).map (UInt8.ofNat (Lib.indexByte hexDigits a * 16 + Lib.indexByte hexDigits b).toNat :: ·) else none
    | _ => none
theorem unqL_plain {c : UInt8} {r : List UInt8} (hp : plainB c = true) : unqL (c :: r) = (unqL r).map (c :: ·) := by
  rcases r with _ | ⟨a, _ | ⟨b, t⟩⟩ <;> simp [unqL, hp]
theorem unqL_short {c : UInt8} {r : List UInt8} (hp : ¬ plainB c = true) (hr : r.length < 2) : unqL (c :: r) = none := by
  rcases r with _ | ⟨a, _ | ⟨b, t⟩⟩
  · simp [unqL, hp]
  · simp [unqL, hp]
  · simp at hr; omega
theorem unqL_esc {c a b : UInt8} {t : List UInt8} (hp : ¬ plainB c = true) : unqL (c :: a :: b :: t) = if c = 37 ∧ 0 ≤ Lib.indexByte hexDigits a ∧ 0 ≤ Lib.indexByte hexDigits b ∧ plainB (UInt8.ofNat (Lib.indexByte hexDigits a * 16 + Lib.indexByte hexDigits b).toNat) = false then (unqL t).map (UInt8.ofNat (Lib.indexByte hexDigits a * 16 + Lib.indexByte hexDigits b).toNat :: ·) else none := by
  rw [unqL, if_neg hp]

/-- The loop's state: the row that grows. -/
structure UQ (acc : List UInt8) (w : World) (v : Value) (wr : World) : Prop where
  own : wr.ownsRow w.heap.size 5 1 v acc.length (Lib.byteCells acc)
  chg : Below w.heap.size w wr

theorem UQ.step {acc : List UInt8} {w wr W w1 : World} {v v' : Value} {c : UInt8} (h : UQ acc w v wr) (hW : Below wr.heap.size wr W)
    (HA : AppRes w.heap.size 5 1 v v' acc.length 1 (Lib.byteCells acc ++ [.int .u8 c.toNat]) W w1) : UQ (acc ++ [c]) w v' w1 := by
  refine ⟨?_, ?_⟩
  · have ho := HA.own
    rw [List.length_append]
    rw [show Lib.byteCells (acc ++ [c]) = Lib.byteCells acc ++ [.int .u8 c.toNat] from List.map_append ..]
    exact ho
  · exact (h.chg.trans (hW.mono h.chg.size)).grown HA.grown (Nat.le_trans h.chg.size hW.size) (fun j hj => (h.own.lt j hj).1)
theorem unq_plain {c : UInt8} {r l acc : List UInt8} (hp : plainB c = true) (h : unqL l = (unqL (c :: r)).map (acc ++ ·)) : unqL l = (unqL r).map ((acc ++ [c]) ++ ·) := by
  rw [h, unqL_plain hp]
  cases unqL r <;> simp
theorem unq_bad {c : UInt8} {r l acc : List UInt8} (hp : ¬ plainB c = true) (hb : ¬ (c = 37 ∧ 2 ≤ r.length)) (h : unqL l = (unqL (c :: r)).map (acc ++ ·)) : unqL l = none := by
  rw [h]
  by_cases h2 : 2 ≤ r.length
  · obtain ⟨a, b, t, rfl⟩ : ∃ a b t, r = a :: b :: t := by
      rcases r with _ | ⟨a, _ | ⟨b, t⟩⟩
      · simp at h2
      · simp at h2
      · exact ⟨a, b, t, rfl⟩
    rw [unqL_esc hp, if_neg (fun e => hb ⟨e.1, h2⟩)]; rfl
  · rw [unqL_short hp (by omega)]; rfl
theorem idx_dig (c : UInt8) : -1 ≤ Lib.indexByte hexDigits c ∧ Lib.indexByte hexDigits c < 16 := by
  have h : ∀ n : Nat, n < 256 → -1 ≤ Lib.indexByte hexDigits (UInt8.ofNat n) ∧ Lib.indexByte hexDigits (UInt8.ofNat n) < 16 := by decide +kernel
  have := h c.toNat c.toNat_lt
  rwa [UInt8.ofNat_toNat] at this

theorem strA_sz (l : List UInt8) : (strA l).size = l.length := by simp [strA, ByteArray.size]
theorem or16 : ∀ n : Nat, n < 16 → ∀ m : Nat, m < 16 → bits BinOp.or .i64 ((n : Int) * 16) (m : Int) % 256 = (((UInt8.ofNat ((n : Int) * 16 + m).toNat).toNat : Nat) : Int) := by decide +kernel
theorem or16i {x y : Int} (x0 : 0 ≤ x) (x1 : x < 16) (y0 : 0 ≤ y) (y1 : y < 16) : bits BinOp.or .i64 (x * 16) y % 256 = (((UInt8.ofNat (x * 16 + y).toNat).toNat : Nat) : Int) := by
  obtain ⟨n, rfl⟩ : ∃ n : Nat, x = n := ⟨x.toNat, by omega⟩
  obtain ⟨m, rfl⟩ : ∃ m : Nat, y = m := ⟨y.toNat, by omega⟩
  exact or16 n (by omega) m (by omega)
theorem or16w : ∀ n : Nat, n < 16 → ∀ m : Nat, m < 16 → IntKind.u8.wrap (bits BinOp.or .i64 (IntKind.i64.wrap ((n : Int) * 16)) (m : Int)) = (((UInt8.ofNat ((n : Int) * 16 + m).toNat).toNat : Nat) : Int) := by decide +kernel
theorem or16wi {x y : Int} (x0 : 0 ≤ x) (x1 : x < 16) (y0 : 0 ≤ y) (y1 : y < 16) : IntKind.u8.wrap (bits BinOp.or .i64 (IntKind.i64.wrap (x * 16)) y) = (((UInt8.ofNat (x * 16 + y).toNat).toNat : Nat) : Int) := by
  obtain ⟨n, rfl⟩ : ∃ n : Nat, x = n := ⟨x.toNat, by omega⟩
  obtain ⟨m, rfl⟩ : ∃ m : Nat, y = m := ⟨y.toNat, by omega⟩
  exact or16w n (by omega) m (by omega)
theorem dig_any (a : UInt8) (w : World) : Calls Tryd.prog 24 #[.string ⟨#[48, 49, 50, 51, 52, 53, 54, 55, 56, 57, 97, 98, 99, 100, 101, 102]⟩, .int .u8 a.toNat] w fun e w' => e = .returned (.int .i64 (Lib.indexByte hexDigits a)) ∧ w' = w := by
  have h := Tryd.strings_IndexByte ⟨#[48, 49, 50, 51, 52, 53, 54, 55, 56, 57, 97, 98, 99, 100, 101, 102]⟩ (a.toNat : Int) w
  have e : ((a.toNat : Int)).toNat.toUInt8 = a := by simp
  rw [e] at h
  exact h
set_option maxHeartbeats 4000000 in
set_option maxRecDepth 100000 in
theorem unquote_any (l : List UInt8) (w : World) (hl : l.length ≤ 4000000) :
    Calls Tryd.prog 11 #[.string (strA (34 :: l ++ [34]))] w fun e w' => Below w.heap.size w w' ∧ ((unqL l = none ∧ e = .returned (.tuple #[.slice none 0 0, .int .i64 240])) ∨
      ∃ r v, unqL l = some r ∧ e = .returned (.tuple #[v, .int .i64 0]) ∧ w'.ownsRow w.heap.size 5 1 v r.length (Lib.byteCells r)) := by
  obtain ⟨s, hs⟩ : ∃ s, s = strA (34 :: l ++ [34]) := ⟨_, rfl⟩
  obtain ⟨m, hm⟩ : ∃ m, m = l.length + 1 := ⟨_, rfl⟩
  have hn : s.size = m + 1 := by rw [hs, hm]; simp [strA, ByteArray.size]
  have hm1 : 1 ≤ m := by omega
  have hmu : m ≤ 4000001 := by omega
  have hg0 : ∀ h : 0 < s.size, (s[0]'h) = 34 := by rw [hs]; intro h; rfl
  have hg1 : ∀ h : m < s.size, (s[m]'h) = 34 := by
    rw [hs, hm]; intro h
    show (34 :: l ++ [34])[l.length + 1]'(by simp) = 34
    simp
  have hx : s.extract 1 m = strA l := by
    rw [hs, hm]
    apply ByteArray.ext
    simp [strA]
  rw [← hs]
  clear hs hm
  have HO : UQ [] w (.slice none 0 0) w := ⟨⟨rfl, .inl ⟨rfl, rfl⟩⟩, Below.refl _ _⟩
  obtain ⟨i0, hi, hz0, hz1, hz2⟩ := info_parts infoByte
  go_enter Tryd.func11, Tryd.ntmps11
  go_wp2_with fail
  clear hg0 hg1 hx
  go_loopw [5, 6] (fun o q wr => ∃ r acc : List UInt8, q = .string (strA r) ∧ r.length ≤ 4000000 ∧ acc.length + r.length ≤ 4000000 ∧ unqL l = (unqL r).map (acc ++ ·) ∧ UQ acc w o wr) (fun _ q _ => match q with | .string b => b.size | _ => 0)
  case atStart => exact ⟨l, [], rfl, hl, by simpa using hl, by simp, HO⟩
  case round =>
    clear HO
    obtain ⟨r, acc, rfl, hr, ha, Hs, HI⟩ := hrel
    have HS := Lib.hid Hs
    clear Hs
    cases r with
    | nil =>
      have hq : (strA []).toList = [] := by simp [strA]
      go_wp2_with fail
      go_ret2
      exact ⟨HI.chg, .inr ⟨acc, _, by rw [HS.out]; simp [unqL], rfl, HI.own⟩⟩
    | cons c r =>
      have hq : (strA (c :: r)).toList = c :: r := by simp [strA]
      have hz : (strA (c :: r)).size = r.length + 1 := by rw [strA_sz]; rfl
      have hc0 : ∀ h : 0 < (strA (c :: r)).size, ((strA (c :: r))[0]'h) = c := fun h => rfl
      have hx1 : (strA (c :: r)).extract 1 (r.length + 1) = strA r := by
        apply ByteArray.ext
        simp [strA]
      have hrl : r.length ≤ 4000000 := by simp at hr; omega
      go_wp2_with fail
      refine (itself_any c wr).mono ?_
      rintro e w2 ⟨rfl, rfl⟩
      by_cases hp : plainB c = true
      · go_wp2_with fail
        refine wp_region_held_drew (S := fun _ => True) (by kernel_rfl) trivial (fun hHeld => ?_)
        refine wpAnyH_take (i := 0) (v := ?_) rfl (by kernel_rfl) (by kernel_rfl) (by kernel_rfl) (fun _ _ _ h => h) (Or.inl ⟨by rfl, ?_⟩) (by assumption) ?_
        rotate_left
        · intro w hSw; (try dsimp only at hSw); go_simp; try with_reducible rfl
        try simp only [List.getElem_toArray, List.getElem_cons_zero, List.getElem_cons_succ, Act.put, List.setIfInBounds_toArray, List.set_cons_zero, List.set_cons_succ]
        refine wpAnyH_take (i := 1) (v := ?_) rfl (by kernel_rfl) (by kernel_rfl) (by kernel_rfl) (fun _ _ _ h => h) (Or.inl ⟨by rfl, ?_⟩) (by assumption) ?_
        rotate_left
        · intro w hSw; (try dsimp only at hSw); go_simp; try with_reducible rfl
        try simp only [List.getElem_toArray, List.getElem_cons_zero, List.getElem_cons_succ, Act.put, List.setIfInBounds_toArray, List.set_cons_zero, List.set_cons_succ]
        refine wpAnyH_take (i := 4) (v := ?_) rfl (by kernel_rfl) (by kernel_rfl) (by kernel_rfl) (fun _ _ _ h => h) (Or.inl ⟨by rfl, ?_⟩) (by assumption) ?_
        rotate_left
        · intro w hSw; (try dsimp only at hSw); go_simp; try with_reducible rfl
        try simp only [List.getElem_toArray, List.getElem_cons_zero, List.getElem_cons_succ, Act.put, List.setIfInBounds_toArray, List.set_cons_zero, List.set_cons_succ]
        refine wpAnyH_take (i := 5) (v := ?_) rfl (by kernel_rfl) (by kernel_rfl) (by kernel_rfl) (fun _ _ _ h => h) (Or.inl ⟨by rfl, ?_⟩) (by assumption) ?_
        rotate_left
        · intro w hSw; go_simp; rw [if_pos (by omega)]
        try simp only [List.getElem_toArray, List.getElem_cons_zero, List.getElem_cons_succ, Act.put, List.setIfInBounds_toArray, List.set_cons_zero, List.set_cons_succ]
        refine wpAnyH_ready (rs := [2]) (by kernel_rfl) (by simp) ?_
        refine AllReadyH.cons (i := 2) rfl (fun K hK => ?_) ?_
        · go_simp
          try clear hHeld
          refine hK.out _ _ trivial (fun hHeld => ?_)
          clear hK K
          try simp only [List.getElem_toArray, List.getElem_cons_zero, List.getElem_cons_succ, Act.put, List.setIfInBounds_toArray, List.set_cons_zero, List.set_cons_succ]
          refine wpAnyH_ready (rs := [3]) (by kernel_rfl) (by simp) ?_
          refine AllReadyH.cons (i := 3) rfl (fun K hK => ?_) ?_
          · rw [if_pos (by rfl)]
            have h1c := one_cell (.int .u8 c.toNat) (heap_alloc_new wr.drew (.cells #[.int .u8 c.toNat] 5))
            have hb1 : Below wr.heap.size wr (wr.drew.alloc (.cells #[.int .u8 c.toNat] 5)) := (Below.refl _ wr).drew.alloc (Nat.le_refl _) _
            refine wp_append_sharp _ (.tmp 35) (.tmp 37) 33 rfl w.heap.size 5 i0 (.int .u8 0) 1 1 Tryd.underlying33 hi hz0 hz1 hz2 rfl (by decide) _ _ _ rfl (own_drewN (HI.own.alloc _) 1) ⟨wr.heap.size, 0, none⟩ 1 1 [.int .u8 c.toNat] rfl rfl h1c ?c2 ?c3 ?c4 ?c5 ?_
            case c2 => intro u hu; simp at hu; subst hu; rfl
            case c3 => unfold maxLen; simp at ha; omega
            case c4 => simp at ha; omega
            case c5 => have := HI.chg.size; simp; omega
            intro v' w2 HA2
            have HN := HI.step hb1 HA2
            clear HA2 hb1 h1c
            try clear hHeld
            refine hK.out _ _ trivial (fun hHeld => ?_)
            clear hK K
            try simp only [List.getElem_toArray, List.getElem_cons_zero, List.getElem_cons_succ, Act.put, List.setIfInBounds_toArray, List.set_cons_zero, List.set_cons_succ]
            refine wpAnyH_ready (rs := [6]) (by kernel_rfl) (by simp) ?_
            refine AllReadyH.cons (i := 6) rfl (fun K hK => ?_) ?_
            · go_simp
              try clear hHeld
              refine hK.out _ _ trivial (fun hHeld => ?_)
              clear hK K
              try simp only [List.getElem_toArray, List.getElem_cons_zero, List.getElem_cons_succ, Act.put, List.setIfInBounds_toArray, List.set_cons_zero, List.set_cons_succ]
              refine wpAnyH_ready (rs := [7]) (by kernel_rfl) (by simp) ?_
              refine AllReadyH.cons (i := 7) rfl (fun K hK => ?_) ?_
              · go_simp
                try clear hHeld
                refine hK.out _ _ trivial (fun hHeld => ?_)
                clear hK K
                try simp only [List.getElem_toArray, List.getElem_cons_zero, List.getElem_cons_succ, Act.put, List.setIfInBounds_toArray, List.set_cons_zero, List.set_cons_succ]
                refine wpAnyH_done (by kernel_rfl) ?_ _
                have HU := Lib.hid (unq_plain hp HS.out)
                go_wp2_with fail
                go_roundw
                case rel => exact ⟨r, acc ++ [c], rfl, hrl, by simp at ha; simp; omega, HU.out, HN⟩
                case measure => simp [hz, strA_sz]
              exact AllReadyH.nil
            exact AllReadyH.nil
          exact AllReadyH.nil
        exact AllReadyH.nil
      · by_cases hb : c = 37 ∧ 2 ≤ r.length
        · obtain ⟨rfl, h2⟩ := hb
          obtain ⟨a, b, t, rfl⟩ : ∃ a b t, r = a :: b :: t := by
            rcases r with _ | ⟨a, _ | ⟨b, t⟩⟩
            · simp at h2
            · simp at h2
            · exact ⟨a, b, t, rfl⟩
          have hz3 : (strA (37 :: a :: b :: t)).size = t.length + 3 := by rw [strA_sz]; rfl
          have hc1 : ∀ h : 1 < (strA (37 :: a :: b :: t)).size, ((strA (37 :: a :: b :: t))[1]'h) = a := fun h => rfl
          have hc2 : ∀ h : 2 < (strA (37 :: a :: b :: t)).size, ((strA (37 :: a :: b :: t))[2]'h) = b := fun h => rfl
          have hx3 : (strA (37 :: a :: b :: t)).extract 3 (t.length + 3) = strA t := by
            apply ByteArray.ext
            simp [strA]
          clear hz hc0 hq hx1 hrl h2
          obtain ⟨x, hx⟩ : ∃ x, x = Lib.indexByte hexDigits a := ⟨_, rfl⟩
          obtain ⟨y, hy⟩ : ∃ y, y = Lib.indexByte hexDigits b := ⟨_, rfl⟩
          have xb := idx_dig a
          have yb := idx_dig b
          rw [← hx] at xb
          rw [← hy] at yb
          have HE := unqL_esc (a := a) (b := b) (t := t) hp
          rw [← hx, ← hy] at HE
          have HE2 := Lib.hid HE
          have HX := Lib.hid hx
          have HY := Lib.hid hy
          clear HE hx hy
          go_wp2_with fail
          refine wp_region_held_drew (S := fun _ => True) (by kernel_rfl) trivial (fun hHeld => ?_)
          refine wpAnyH_take (i := 0) (v := ?_) rfl (by kernel_rfl) (by kernel_rfl) (by kernel_rfl) (fun _ _ _ h => h) (Or.inl ⟨by rfl, ?_⟩) (by assumption) ?_
          rotate_left
          · intro w hSw; (try dsimp only at hSw); go_simp; try with_reducible rfl
          try simp only [List.getElem_toArray, List.getElem_cons_zero, List.getElem_cons_succ, Act.put, List.setIfInBounds_toArray, List.set_cons_zero, List.set_cons_succ]
          refine wpAnyH_take (i := 1) (v := ?_) rfl (by kernel_rfl) (by kernel_rfl) (by kernel_rfl) (fun _ _ _ h => h) (Or.inl ⟨by rfl, ?_⟩) (by assumption) ?_
          rotate_left
          · intro w hSw; go_simp; rw [if_pos (by omega)]
          try simp only [List.getElem_toArray, List.getElem_cons_zero, List.getElem_cons_succ, Act.put, List.setIfInBounds_toArray, List.set_cons_zero, List.set_cons_succ]
          refine wpAnyH_take (i := 3) (v := ?_) rfl (by kernel_rfl) (by kernel_rfl) (by kernel_rfl) (fun _ _ _ h => h) (Or.inl ⟨by rfl, ?_⟩) (by assumption) ?_
          rotate_left
          · intro w hSw; (try dsimp only at hSw); go_simp; try with_reducible rfl
          try simp only [List.getElem_toArray, List.getElem_cons_zero, List.getElem_cons_succ, Act.put, List.setIfInBounds_toArray, List.set_cons_zero, List.set_cons_succ]
          refine wpAnyH_take (i := 4) (v := ?_) rfl (by kernel_rfl) (by kernel_rfl) (by kernel_rfl) (fun _ _ _ h => h) (Or.inl ⟨by rfl, ?_⟩) (by assumption) ?_
          rotate_left
          · intro w hSw; go_simp; rw [if_pos (by omega)]
          try simp only [List.getElem_toArray, List.getElem_cons_zero, List.getElem_cons_succ, Act.put, List.setIfInBounds_toArray, List.set_cons_zero, List.set_cons_succ]
          refine wpAnyH_ready (rs := [2]) (by kernel_rfl) (by simp) ?_
          refine AllReadyH.cons (i := 2) rfl (fun K hK => ?_) ?_
          · go_simp
            refine (dig_any a _).mono ?_
            rintro e w2 ⟨rfl, rfl⟩
            rw [← HX.out]
            try clear hHeld
            refine hK.out _ _ trivial (fun hHeld => ?_)
            clear hK K
            try simp only [List.getElem_toArray, List.getElem_cons_zero, List.getElem_cons_succ, Act.put, List.setIfInBounds_toArray, List.set_cons_zero, List.set_cons_succ]
            refine wpAnyH_ready (rs := [5]) (by kernel_rfl) (by simp) ?_
            refine AllReadyH.cons (i := 5) rfl (fun K hK => ?_) ?_
            · go_simp
              refine (dig_any b _).mono ?_
              rintro e w2 ⟨rfl, rfl⟩
              rw [← HY.out]
              try clear hHeld
              refine hK.out _ _ trivial (fun hHeld => ?_)
              clear hK K
              try simp only [List.getElem_toArray, List.getElem_cons_zero, List.getElem_cons_succ, Act.put, List.setIfInBounds_toArray, List.set_cons_zero, List.set_cons_succ]
              refine wpAnyH_ready (rs := [6]) (by kernel_rfl) (by simp) ?_
              refine AllReadyH.cons (i := 6) rfl (fun K hK => ?_) ?_
              · go_simp
                try clear hHeld
                refine hK.out _ _ trivial (fun hHeld => ?_)
                clear hK K
                try simp only [List.getElem_toArray, List.getElem_cons_zero, List.getElem_cons_succ, Act.put, List.setIfInBounds_toArray, List.set_cons_zero, List.set_cons_succ]
                refine wpAnyH_ready (rs := [7]) (by kernel_rfl) (by simp) ?_
                refine AllReadyH.cons (i := 7) rfl (fun K hK => ?_) ?_
                · go_simp
                  try clear hHeld
                  refine hK.out _ _ trivial (fun hHeld => ?_)
                  clear hK K
                  try simp only [List.getElem_toArray, List.getElem_cons_zero, List.getElem_cons_succ, Act.put, List.setIfInBounds_toArray, List.set_cons_zero, List.set_cons_succ]
                  refine wpAnyH_done (by kernel_rfl) ?_ _
                  by_cases hxy : 0 ≤ x ∧ 0 ≤ y
                  · obtain ⟨hx0, hy0⟩ := hxy
                    have hv := or16i hx0 xb.2 hy0 yb.2
                    have hv2 := or16wi hx0 xb.2 hy0 yb.2
                    have HE3 := HE2.out
                    generalize UInt8.ofNat (x * 16 + y).toNat = v at hv hv2 HE3
                    have HV2 := Lib.hid hv2
                    clear hv2
                    by_cases hpv : plainB v = true
                    · have HB := Lib.hid (show unqL l = none by
                        rw [HS.out, HE3, if_neg (fun h => by simp [hpv] at h)]; rfl)
                      clear HE3
                      go_wp2_with fail
                      refine (itself_any v _).mono ?_
                      rintro e w2 ⟨rfl, rfl⟩
                      go_wp2_with fail
                      go_ret2
                      exact ⟨HI.chg.drew, .inl ⟨HB.out, rfl⟩⟩
                    · have HB := Lib.hid (show unqL l = (unqL t).map ((acc ++ [v]) ++ ·) by
                        rw [HS.out, HE3, if_pos ⟨trivial, hx0, hy0, by simpa using hpv⟩]
                        cases unqL t <;> simp)
                      clear HE3
                      go_wp2_with fail
                      refine (itself_any v _).mono ?_
                      rintro e w2 ⟨rfl, rfl⟩
                      go_wp2_with fail
                      clear hHeld
                      refine wp_region_held_drew (S := fun _ => True) (by kernel_rfl) trivial (fun hHeld => ?_)
                      refine wpAnyH_take (i := 0) (v := ?_) rfl (by kernel_rfl) (by kernel_rfl) (by kernel_rfl) (fun _ _ _ h => h) (Or.inl ⟨by rfl, ?_⟩) (by assumption) ?_
                      rotate_left
                      · intro w hSw; (try dsimp only at hSw); go_simp; try with_reducible rfl
                      try simp only [List.getElem_toArray, List.getElem_cons_zero, List.getElem_cons_succ, Act.put, List.setIfInBounds_toArray, List.set_cons_zero, List.set_cons_succ]
                      refine wpAnyH_take (i := 1) (v := ?_) rfl (by kernel_rfl) (by kernel_rfl) (by kernel_rfl) (fun _ _ _ h => h) (Or.inl ⟨by rfl, ?_⟩) (by assumption) ?_
                      rotate_left
                      · intro w hSw; (try dsimp only at hSw); go_simp; try with_reducible rfl
                      try simp only [List.getElem_toArray, List.getElem_cons_zero, List.getElem_cons_succ, Act.put, List.setIfInBounds_toArray, List.set_cons_zero, List.set_cons_succ]
                      refine wpAnyH_take (i := 2) (v := ?_) rfl (by kernel_rfl) (by kernel_rfl) (by kernel_rfl) (fun _ _ _ h => h) (Or.inl ⟨by rfl, ?_⟩) (by assumption) ?_
                      rotate_left
                      · intro w hSw; (try dsimp only at hSw); go_simp; try with_reducible rfl
                      try simp only [List.getElem_toArray, List.getElem_cons_zero, List.getElem_cons_succ, Act.put, List.setIfInBounds_toArray, List.set_cons_zero, List.set_cons_succ]
                      refine wpAnyH_take (i := 3) (v := ?_) rfl (by kernel_rfl) (by kernel_rfl) (by kernel_rfl) (fun _ _ _ h => h) (Or.inl ⟨by rfl, ?_⟩) (by assumption) ?_
                      rotate_left
                      · intro w hSw; (try dsimp only at hSw); go_simp; try with_reducible rfl
                      try simp only [List.getElem_toArray, List.getElem_cons_zero, List.getElem_cons_succ, Act.put, List.setIfInBounds_toArray, List.set_cons_zero, List.set_cons_succ]
                      refine wpAnyH_take (i := 4) (v := ?_) rfl (by kernel_rfl) (by kernel_rfl) (by kernel_rfl) (fun _ _ _ h => h) (Or.inl ⟨by rfl, ?_⟩) (by assumption) ?_
                      rotate_left
                      · intro w hSw; (try dsimp only at hSw); go_simp; try with_reducible rfl
                      try simp only [List.getElem_toArray, List.getElem_cons_zero, List.getElem_cons_succ, Act.put, List.setIfInBounds_toArray, List.set_cons_zero, List.set_cons_succ]
                      refine wpAnyH_take (i := 5) (v := ?_) rfl (by kernel_rfl) (by kernel_rfl) (by kernel_rfl) (fun _ _ _ h => h) (Or.inl ⟨by rfl, ?_⟩) (by assumption) ?_
                      rotate_left
                      · intro w hSw; (try dsimp only at hSw); go_simp; try with_reducible rfl
                      try simp only [List.getElem_toArray, List.getElem_cons_zero, List.getElem_cons_succ, Act.put, List.setIfInBounds_toArray, List.set_cons_zero, List.set_cons_succ]
                      refine wpAnyH_take (i := 8) (v := ?_) rfl (by kernel_rfl) (by kernel_rfl) (by kernel_rfl) (fun _ _ _ h => h) (Or.inl ⟨by rfl, ?_⟩) (by assumption) ?_
                      rotate_left
                      · intro w hSw; (try dsimp only at hSw); go_simp; try with_reducible rfl
                      try simp only [List.getElem_toArray, List.getElem_cons_zero, List.getElem_cons_succ, Act.put, List.setIfInBounds_toArray, List.set_cons_zero, List.set_cons_succ]
                      refine wpAnyH_take (i := 9) (v := ?_) rfl (by kernel_rfl) (by kernel_rfl) (by kernel_rfl) (fun _ _ _ h => h) (Or.inl ⟨by rfl, ?_⟩) (by assumption) ?_
                      rotate_left
                      · intro w hSw; (try dsimp only at hSw); go_simp; try with_reducible rfl
                      try simp only [List.getElem_toArray, List.getElem_cons_zero, List.getElem_cons_succ, Act.put, List.setIfInBounds_toArray, List.set_cons_zero, List.set_cons_succ]
                      rw [HV2.out]
                      refine wpAnyH_ready (rs := [6]) (by kernel_rfl) (by simp) ?_
                      refine AllReadyH.cons (i := 6) rfl (fun K hK => ?_) ?_
                      · go_simp
                        try clear hHeld
                        refine hK.out _ _ trivial (fun hHeld => ?_)
                        clear hK K
                        try simp only [List.getElem_toArray, List.getElem_cons_zero, List.getElem_cons_succ, Act.put, List.setIfInBounds_toArray, List.set_cons_zero, List.set_cons_succ]
                        refine wpAnyH_ready (rs := [7]) (by kernel_rfl) (by simp) ?_
                        refine AllReadyH.cons (i := 7) rfl (fun K hK => ?_) ?_
                        · rw [if_pos (by rfl)]
                          have h1c := one_cell (.int .u8 v.toNat) (heap_alloc_new wr.drew.drew (.cells #[.int .u8 v.toNat] 5))
                          have hb1 : Below wr.heap.size wr (wr.drew.drew.alloc (.cells #[.int .u8 v.toNat] 5)) := (Below.refl _ wr).drew.drew.alloc (Nat.le_refl _) _
                          refine wp_append_sharp _ (.tmp 68) (.tmp 74) 33 rfl w.heap.size 5 i0 (.int .u8 0) 1 1 Tryd.underlying33 hi hz0 hz1 hz2 rfl (by decide) _ _ _ rfl (own_drewN (HI.own.alloc _) 2) ⟨wr.heap.size, 0, none⟩ 1 1 [.int .u8 v.toNat] rfl rfl h1c ?c2 ?c3 ?c4 ?c5 ?_
                          case c2 => intro u hu; simp at hu; subst hu; rfl
                          case c3 => unfold maxLen; simp at ha; omega
                          case c4 => simp at ha; omega
                          case c5 => have := HI.chg.size; simp; omega
                          intro v' w2 HA2
                          have HN := HI.step hb1 HA2
                          clear HA2 hb1 h1c
                          try clear hHeld
                          refine hK.out _ _ trivial (fun hHeld => ?_)
                          clear hK K
                          try simp only [List.getElem_toArray, List.getElem_cons_zero, List.getElem_cons_succ, Act.put, List.setIfInBounds_toArray, List.set_cons_zero, List.set_cons_succ]
                          refine wpAnyH_ready (rs := [10]) (by kernel_rfl) (by simp) ?_
                          refine AllReadyH.cons (i := 10) rfl (fun K hK => ?_) ?_
                          · go_simp
                            try clear hHeld
                            refine hK.out _ _ trivial (fun hHeld => ?_)
                            clear hK K
                            try simp only [List.getElem_toArray, List.getElem_cons_zero, List.getElem_cons_succ, Act.put, List.setIfInBounds_toArray, List.set_cons_zero, List.set_cons_succ]
                            refine wpAnyH_ready (rs := [11]) (by kernel_rfl) (by simp) ?_
                            refine AllReadyH.cons (i := 11) rfl (fun K hK => ?_) ?_
                            · go_simp
                              try clear hHeld
                              refine hK.out _ _ trivial (fun hHeld => ?_)
                              clear hK K
                              try simp only [List.getElem_toArray, List.getElem_cons_zero, List.getElem_cons_succ, Act.put, List.setIfInBounds_toArray, List.set_cons_zero, List.set_cons_succ]
                              refine wpAnyH_done (by kernel_rfl) ?_ _
                              go_wp2_with fail
                              go_roundw
                              case rel => exact ⟨t, acc ++ [v], rfl, by simp at hr; omega, by simp at ha; simp; omega, HB.out, HN⟩
                              case measure => simp [hz3, strA_sz]
                            exact AllReadyH.nil
                          exact AllReadyH.nil
                        exact AllReadyH.nil
                      exact AllReadyH.nil
                  · have HB := Lib.hid (show unqL l = none by
                      rw [HS.out, HE2.out, if_neg (fun h => hxy ⟨h.2.1, h.2.2.1⟩)]; rfl)
                    have hxn : 0 ≤ x → ¬ 0 ≤ y := fun a b => hxy ⟨a, b⟩
                    go_wp2_with fail
                    all_goals go_ret2
                    all_goals exact ⟨HI.chg.drew, .inl ⟨HB.out, rfl⟩⟩
                exact AllReadyH.nil
              exact AllReadyH.nil
            exact AllReadyH.nil
          exact AllReadyH.nil
        · have HB := Lib.hid (unq_bad hp hb HS.out)
          have hb2 : c.toNat = 37 → ¬ 2 ≤ r.length := fun e h => hb ⟨by rw [← UInt8.toNat_inj]; exact e, h⟩
          go_wp2_with fail
          all_goals go_ret2
          all_goals exact ⟨HI.chg, .inl ⟨HB.out, rfl⟩⟩
end Go.Proofs.YtnkhakomjklfmaaDoor
