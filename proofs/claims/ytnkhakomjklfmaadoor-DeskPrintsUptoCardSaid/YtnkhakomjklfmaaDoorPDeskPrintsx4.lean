-- PRINTED BY print.sh 35421559b90ae4d0a3588c463048766b98c2df88dd9212a6774a882060cdf62d: not written by this session
import Derived.Test.YtnkhakomjklfmaaDoorPDeskPrintsx0
namespace Go.Proofs.YtnkhakomjklfmaaDoor.PDeskPrints
open Go.RowKit Go.Proofs.YtnkhakomjklfmaaDoorW.PrintWords Go.Proofs.YtnkhakomjklfmaaDoorW.PrintLast Go.Proofs.YtnkhakomjklfmaaDoorW.PrintMore
attribute [local go_sem] max2_int min2_int max_two min_two max_three min_three max_four min_four   -- for this text's walks alone
set_option linter.unusedVariables false
set_option linter.unusedSimpArgs false

-- NOT PRINTED: function 69 (strconv_ParseUint)

-- NOT PRINTED: function 56 (strconv_ParseInt)

-- NOT PRINTED: function 44 (strconv_Atoi_44)

-- NOT PRINTED: function 70 (stringslite_Clone)

-- NOT PRINTED: function 57 (strconv_syntaxError)

-- NOT PRINTED: function 58 (strconv_rangeError)

-- NOT PRINTED: function 71 (errors_New)

-- NOT PRINTED: function 59 (strconv_baseError)

-- NOT PRINTED: function 60 (strconv_bitSizeError)

-- NOT PRINTED: function 45 (strconv_toError)

-- NOT PRINTED: function 37 (strconv_Atoi_37)

-- NOT PRINTED: function 22 (desk_event)

-- NOT PRINTED: function 10 (desk_Parse)

-- NOT PRINTED: function 4 (cambiumlaw26_shown)

/-! ### cambiumlaw26_few: function 5 -/
mutual
def cambiumlaw26_few.l0 : Nat → List (S37) → List (S37) → Int → Option ((List (S37)))
  | 0, _, _, _ => none
  | k + 1, x0, x3, x4 => if x4 < (x0.length : Int) then (cambiumlaw26_few.j1 k x0 x3 x4 (decide (x4 < 60))) else (cambiumlaw26_few.j1 k x0 x3 x4 false)
def cambiumlaw26_few.j1 : Nat → List (S37) → List (S37) → Int → Bool → Option ((List (S37)))
  | 0, _, _, _, _ => none
  | k + 1, x0, x3, x4, x14 => if x14 = true then (if 0 ≤ x4 then (if x4 < (x0.length : Int) then (if (((rd_T37 x0 x4).f7).length : Int) > 300 then (if 300 ≤ (((rd_T37 x0 x4).f7).length : Int) then (if x3.length < 1466015503701 then (cambiumlaw26_few.l0 k x0 (x3 ++ [(⟨(rd_T37 x0 x4).f0, (rd_T37 x0 x4).f1, (rd_T37 x0 x4).f2, (rd_T37 x0 x4).f3, (rd_T37 x0 x4).f4, (rd_T37 x0 x4).f5, (rd_T37 x0 x4).f6, (((rd_T37 x0 x4).f7).take 300)⟩ : S37)]) (wrap64 (x4 + 1))) else (none)) else (none)) else (if x3.length < 1466015503701 then (cambiumlaw26_few.l0 k x0 (x3 ++ [(⟨(rd_T37 x0 x4).f0, (rd_T37 x0 x4).f1, (rd_T37 x0 x4).f2, (rd_T37 x0 x4).f3, (rd_T37 x0 x4).f4, (rd_T37 x0 x4).f5, (rd_T37 x0 x4).f6, (rd_T37 x0 x4).f7⟩ : S37)]) (wrap64 (x4 + 1))) else (none))) else (none)) else (none)) else (some x3)
end
def cambiumlaw26_few.f (k : Nat) (l0 : List (S37)) : Option ((List (S37))) := cambiumlaw26_few.l0 k l0 (([] : List (S37))) 0
theorem cambiumlaw26_few.mono_l : ∀ k, (∀ y0 y1 y2, LeO (cambiumlaw26_few.l0 k y0 y1 y2) (cambiumlaw26_few.l0 (k + 1) y0 y1 y2)) ∧ (∀ y0 y1 y2 y3, LeO (cambiumlaw26_few.j1 k y0 y1 y2 y3) (cambiumlaw26_few.j1 (k + 1) y0 y1 y2 y3))
  | 0 => ⟨fun _ _ _ r h => by simp [cambiumlaw26_few.l0] at h, fun _ _ _ _ r h => by simp [cambiumlaw26_few.j1] at h⟩
  | k + 1 => by
    obtain ⟨ih0, ih1⟩ := cambiumlaw26_few.mono_l k
    refine ⟨?_, ?_⟩
    · intro y0 y1 y2
      unfold cambiumlaw26_few.l0
      repeat' first
      | (with_reducible exact ih0 _ _ _)
      | (with_reducible exact ih1 _ _ _ _)
      | (with_reducible exact LeO.refl _)
      | (with_reducible exact LeO.none _)
      | (with_reducible refine LeO.ite ?_ ?_)
      | (with_reducible refine LeO.bind ?_ (fun _ => ?_))
      | exact ih0 _ _ _
      | exact ih1 _ _ _ _
      | exact LeO.none _
      | refine LeO.ite ?_ ?_
      | refine LeO.bind ?_ (fun _ => ?_)
    · intro y0 y1 y2 y3
      unfold cambiumlaw26_few.j1
      repeat' first
      | (with_reducible exact ih0 _ _ _)
      | (with_reducible exact ih1 _ _ _ _)
      | (with_reducible exact LeO.refl _)
      | (with_reducible exact LeO.none _)
      | (with_reducible refine LeO.ite ?_ ?_)
      | (with_reducible refine LeO.bind ?_ (fun _ => ?_))
      | exact ih0 _ _ _
      | exact ih1 _ _ _ _
      | exact LeO.none _
      | refine LeO.ite ?_ ?_
      | refine LeO.bind ?_ (fun _ => ?_)
theorem cambiumlaw26_few.mono : ∀ a0 k, LeO (cambiumlaw26_few.f k a0) (cambiumlaw26_few.f (k + 1) a0) := by
  intro a0 k
  obtain ⟨ih0, ih1⟩ := cambiumlaw26_few.mono_l k
  unfold cambiumlaw26_few.f
  repeat' first
      | (with_reducible exact ih0 _ _ _)
      | (with_reducible exact ih1 _ _ _ _)
      | (with_reducible exact LeO.refl _)
      | (with_reducible exact LeO.none _)
      | (with_reducible refine LeO.ite ?_ ?_)
      | (with_reducible refine LeO.bind ?_ (fun _ => ?_))
      | exact ih0 _ _ _
      | exact ih1 _ _ _ _
      | exact LeO.none _
      | refine LeO.ite ?_ ?_
      | refine LeO.bind ?_ (fun _ => ?_)
set_option maxHeartbeats 8000000 in
set_option maxRecDepth 100000 in
theorem cambiumlaw26_few.calls (k : Nat) (P0_ : Nat → Prop) (A0 : Option Addr) (c0 : Nat) (l0 : List (S37)) (r : List (S37)) (w : World) (hs0 : Kd.V k37 37 w w.heap.size (fun k_ => P0_ k_) (.slice A0 l0.length c0) l0) (h : cambiumlaw26_few.f k l0 = some r) :
    Calls Tryd.prog 5 #[.slice A0 l0.length c0] w fun e w' => ∃ v0_ : Value, e = .returned (v0_) ∧ Kd.N k37 37 w' w.heap.size (fun k_ => (P0_ k_ ∨ w.heap.size ≤ k_)) v0_ r ∧ Below w.heap.size w w' := by
  have hu37 := Tryd.underlying37
  have HO0 := Aside0.mk (show Kd.V k37 37 w w.heap.size (fun k_ => (P0_ k_ ∨ w.heap.size ≤ k_)) (.slice A0 l0.length c0) l0 from Kd.V_mono hs0 (fun k_ hk => .inl hk))
  have HB := Aside0.mk (Below.refl w.heap.size w)
  have H : (cambiumlaw26_few.l0 k l0 (([] : List (S37))) 0) = some r := h
  clear h
  obtain ⟨y140, hy140⟩ : ∃ y_ : List (S37), y_ = (([] : List (S37))) := ⟨_, rfl⟩
  replace H : (cambiumlaw26_few.l0 k l0 y140 0) = some r := by first | (rw [hy140]; with_reducible exact H) | (have H2_ := (Option.bind_some _ _).symm.trans H; rw [hy140]; with_reducible exact H2_) | (have H2_ := (Option.bind_some _ _).symm.trans H; with_reducible exact H2_) | with_reducible exact H | (rw [hy140]; exact H) | exact H
  have Ny140 := Aside0.mk hy140
  clear hy140
  have H' := Aside0.mk H
  clear H
  go_enter Tryd.func5, Tryd.ntmps5
  go_wp2_with (first | ((with_reducible refine gate_dst (N := 6) rfl ?_); refine Kd.N_lit k37 _ 37 ?hg (N' := 6) ?hd (xs := ([] : List (S37))) (inner := []) (ok := (fun k_ => (P0_ k_ ∨ w.heap.size ≤ k_))) (okp := (fun k_ => (P0_ k_ ∨ w.heap.size ≤ k_))) ?hr ?hp (fun _ hk => hk) ((show ∀ k_, w.heap.size ≤ k_ → (fun k_ => (P0_ k_ ∨ w.heap.size ≤ k_)) k_ from fun k_ hk => (.inr (Nat.le_trans (below_size (by repeat (first | (with_reducible first | exact HB.out | apply below_alloc | apply pw_below_drewN | apply below_drew1) | exact HB.out))) hk))) _ (Nat.le_refl _)) (Below.refl _ _) (Nat.le_refl _) (by simp) ?_; (case hd => rfl); (case hg => rfl); (case hr => first | (go_simp; done) | (go_simp; rfl)); (case hp => exact (Reps.none _ _)); intro v141 w2 ho3 hb hg_ hnew_; clear hg_ hnew_; (first | rw [← Ny140.out] at ho3 | (simp only [Int.reduceToNat] at ho3; rw [← Ny140.out] at ho3)); have n0_ := Aside0.mk (Kd.V_elder' (by (with_reducible repeat (first | apply Kd.V_alloc | apply Kd.V_drewN | apply Kd.V_drew)); exact HO0.out) (Kd.N_base ho3) hb); have n1_ := Aside0.mk (Kd.N_lower ho3 (below_size (by repeat (first | (with_reducible first | exact HB.out | apply below_alloc | apply pw_below_drewN | apply below_drew1) | exact HB.out)))); have n2_ := Aside0.mk (below_step (by repeat (first | (with_reducible first | exact HB.out | apply below_alloc | apply pw_below_drewN | apply below_drew1) | exact HB.out)) hb); clear HO0; clear HB; have HO0 := n0_; have HO142 := n1_; have HB := n2_; clear n0_ n1_ n2_; clear hb ho3))
  go_loopg [3, 4] k (fun kq v3 v4 w' => ∃ (x3_1 : List (S37)) (x4_1 : Int), v4 = .int .i64 x4_1 ∧ Aside0 (cambiumlaw26_few.l0 kq l0 x3_1 x4_1 = some r) ∧ Aside0 (kq ≤ k) ∧ Aside0 (Kd.V k37 37 w' w.heap.size (fun k_ => (P0_ k_ ∨ w.heap.size ≤ k_) ∧ some k_ ≠ (v3 : Value).ownBlock) (.slice A0 l0.length c0) l0) ∧ Aside0 (Kd.N k37 37 w' w.heap.size (fun k_ => (P0_ k_ ∨ w.heap.size ≤ k_)) v3 x3_1) ∧ Aside0 (Below w.heap.size w w'))
  case atStart => exact ⟨(y140), (0), (by first | rfl | (simp; done) | (simp [*]; done)), H', ⟨Nat.le_refl _⟩, ⟨by (with_reducible repeat (first | apply Kd.V_alloc | apply Kd.V_drewN | apply Kd.V_drew)); exact HO0.out⟩, ⟨by (with_reducible repeat (first | apply Kd.N_alloc | apply Kd.N_drewN | apply Kd.N_drew)); exact HO142.out⟩, ⟨by repeat (first | (with_reducible first | exact HB.out | apply below_alloc | apply pw_below_drewN | apply below_drew1) | exact HB.out)⟩⟩
  case round =>
    clear H'
    try clear p2
    obtain ⟨x3_1, x4_1, rfl, HA, HK1, HO_0, HO_3, HB⟩ := hrel
    cases gk with
    | zero => exact absurd HA.out (by simp [cambiumlaw26_few.l0])
    | succ k1 =>
      have H := HA.out
      clear HA
      simp only [cambiumlaw26_few.l0] at H
      have HC4 := Aside0.mk H
      clear H
      go_upto_region 3 with (fail)
      go_cut [14] (fun v14 wc => ∃ (kq : Nat) (x14_3 : Bool), v14 = .bool x14_3 ∧ Aside0 (cambiumlaw26_few.j1 kq l0 x3_1 x4_1 x14_3 = some r) ∧ Aside0 (kq ≤ k1) ∧ Aside0 (Kd.V k37 37 wc w.heap.size (fun k_ => (P0_ k_ ∨ w.heap.size ≤ k_) ∧ some k_ ≠ (u3 : Value).ownBlock) (.slice A0 l0.length c0) l0) ∧ Aside0 (Kd.N k37 37 wc w.heap.size (fun k_ => (P0_ k_ ∨ w.heap.size ≤ k_)) u3 x3_1) ∧ Aside0 (Below w.heap.size w wc))
      case first =>
        have H := HC4.out
        clear HC4
        by_cases c5 : x4_1 < (l0.length : Int)
        · rw [if_pos c5] at H
          have c5b0 : decide (x4_1 < (l0.length : Int)) = true := decide_eq_true c5
          clear c5
          (first | rw [c5b0] | (simp only [i64_w, i32_w]; rw [c5b0]) | skip)
          have H' := Aside0.mk H
          clear H
          go_wp2
          go_meet
          case rel => exact ⟨_, (decide (x4_1 < 60)), (by first | rfl | (simp; done) | (simp [*]; done)), H', ⟨by have := HK1.out; first | omega | exact Nat.le_refl _⟩, ⟨by (with_reducible repeat (first | apply Kd.V_alloc | apply Kd.V_drewN | apply Kd.V_drew)); exact HO_0.out⟩, ⟨by (with_reducible repeat (first | apply Kd.N_alloc | apply Kd.N_drewN | apply Kd.N_drew)); exact HO_3.out⟩, ⟨by repeat (first | (with_reducible first | exact HB.out | apply below_alloc | apply pw_below_drewN | apply below_drew1) | exact HB.out)⟩⟩
        · rw [if_neg c5] at H
          have c5b0 : decide (x4_1 < (l0.length : Int)) = false := decide_eq_false c5
          clear c5
          (first | rw [c5b0] | (simp only [i64_w, i32_w]; rw [c5b0]) | skip)
          have H' := Aside0.mk H
          clear H
          go_wp2
          go_meet
          case rel => exact ⟨_, (false), (by first | rfl | (simp; done) | (simp [*]; done)), H', ⟨by have := HK1.out; first | omega | exact Nat.le_refl _⟩, ⟨by (with_reducible repeat (first | apply Kd.V_alloc | apply Kd.V_drewN | apply Kd.V_drew)); exact HO_0.out⟩, ⟨by (with_reducible repeat (first | apply Kd.N_alloc | apply Kd.N_drewN | apply Kd.N_drew)); exact HO_3.out⟩, ⟨by repeat (first | (with_reducible first | exact HB.out | apply below_alloc | apply pw_below_drewN | apply below_drew1) | exact HB.out)⟩⟩
      case rest =>
        clear HC4
        try clear p2
        try clear c5
        try clear c5b0
        try clear p2
        obtain ⟨kq, x14_3, rfl, HA, HJ3, HO_0, HO_3, HB⟩ := hcut
        cases kq with
        | zero => exact absurd HA.out (by simp [cambiumlaw26_few.j1])
        | succ kj3 =>
          have H := HA.out
          clear HA
          simp only [cambiumlaw26_few.j1] at H
          by_cases c6 : x14_3 = true
          · subst c6
            have H1 : (if 0 ≤ x4_1 then (if x4_1 < (l0.length : Int) then (if (((rd_T37 l0 x4_1).f7).length : Int) > 300 then (if 300 ≤ (((rd_T37 l0 x4_1).f7).length : Int) then (if x3_1.length < 1466015503701 then (cambiumlaw26_few.l0 kj3 l0 (x3_1 ++ [(⟨(rd_T37 l0 x4_1).f0, (rd_T37 l0 x4_1).f1, (rd_T37 l0 x4_1).f2, (rd_T37 l0 x4_1).f3, (rd_T37 l0 x4_1).f4, (rd_T37 l0 x4_1).f5, (rd_T37 l0 x4_1).f6, (((rd_T37 l0 x4_1).f7).take 300)⟩ : S37)]) (wrap64 (x4_1 + 1))) else (none)) else (none)) else (if x3_1.length < 1466015503701 then (cambiumlaw26_few.l0 kj3 l0 (x3_1 ++ [(⟨(rd_T37 l0 x4_1).f0, (rd_T37 l0 x4_1).f1, (rd_T37 l0 x4_1).f2, (rd_T37 l0 x4_1).f3, (rd_T37 l0 x4_1).f4, (rd_T37 l0 x4_1).f5, (rd_T37 l0 x4_1).f6, (rd_T37 l0 x4_1).f7⟩ : S37)]) (wrap64 (x4_1 + 1))) else (none))) else (none)) else (none)) = some r := by rw [if_pos rfl] at H; exact H
            clear H
            have H := H1
            clear H1
            by_cases c7 : 0 ≤ x4_1
            · rw [if_pos c7] at H
              have c7b0 : decide (0 ≤ x4_1) = true := decide_eq_true c7
              clear c7
              by_cases c8 : x4_1 < (l0.length : Int)
              · rw [if_pos c8] at H
                have c8b0 : decide (x4_1 < (l0.length : Int)) = true := decide_eq_true c8
                clear c8
                by_cases c9 : (((rd_T37 l0 x4_1).f7).length : Int) > 300
                · rw [if_pos c9] at H
                  have c9b0 : decide (300 < (((rd_T37 l0 x4_1).f7).length : Int)) = true := decide_eq_true c9
                  have c9b1 : decide (300 < ((rd_T37 l0 x4_1).f7).length) = true := decide_eq_true (by omega)
                  clear c9
                  by_cases c10 : 300 ≤ (((rd_T37 l0 x4_1).f7).length : Int)
                  · rw [if_pos c10] at H
                    have c10b0 := eq_true c10
                    have c10b1 : decide (300 ≤ (((rd_T37 l0 x4_1).f7).length : Int)) = true := decide_eq_true c10
                    clear c10
                    obtain ⟨y145, hy145⟩ : ∃ y_ : List Int, y_ = (((rd_T37 l0 x4_1).f7).take 300) := ⟨_, rfl⟩
                    replace H : (if x3_1.length < 1466015503701 then (cambiumlaw26_few.l0 kj3 l0 (x3_1 ++ [(⟨(rd_T37 l0 x4_1).f0, (rd_T37 l0 x4_1).f1, (rd_T37 l0 x4_1).f2, (rd_T37 l0 x4_1).f3, (rd_T37 l0 x4_1).f4, (rd_T37 l0 x4_1).f5, (rd_T37 l0 x4_1).f6, y145⟩ : S37)]) (wrap64 (x4_1 + 1))) else (none)) = some r := by first | (rw [hy145]; with_reducible exact H) | (have H2_ := (Option.bind_some _ _).symm.trans H; rw [hy145]; with_reducible exact H2_) | (have H2_ := (Option.bind_some _ _).symm.trans H; with_reducible exact H2_) | with_reducible exact H | (rw [hy145]; exact H) | exact H
                    have Ny145 := Aside0.mk hy145
                    clear hy145
                    by_cases c11 : x3_1.length < 1466015503701
                    · rw [if_pos c11] at H
                      have LMc11 := Aside0.mk c11
                      clear c11
                      obtain ⟨y150, hy150⟩ : ∃ y_ : List (S37), y_ = (x3_1 ++ [(⟨(rd_T37 l0 x4_1).f0, (rd_T37 l0 x4_1).f1, (rd_T37 l0 x4_1).f2, (rd_T37 l0 x4_1).f3, (rd_T37 l0 x4_1).f4, (rd_T37 l0 x4_1).f5, (rd_T37 l0 x4_1).f6, y145⟩ : S37)]) := ⟨_, rfl⟩
                      replace H : (cambiumlaw26_few.l0 kj3 l0 y150 (wrap64 (x4_1 + 1))) = some r := by first | (rw [hy150]; with_reducible exact H) | (have H2_ := (Option.bind_some _ _).symm.trans H; rw [hy150]; with_reducible exact H2_) | (have H2_ := (Option.bind_some _ _).symm.trans H; with_reducible exact H2_) | with_reducible exact H | (rw [hy150]; exact H) | exact H
                      have Ny150 := Aside0.mk hy150
                      clear hy150
                      have H' := Aside0.mk H
                      clear H
                      have p143 : 0 ≤ (x4_1 : Int) := of_decide_eq_true (by first | (with_reducible assumption) | assumption)
                      have q143 : x4_1 < (l0.length : Int) := of_decide_eq_true (by first | (with_reducible assumption) | assumption)
                      obtain ⟨ad143, A143_7, c143_7, e143, hx143_0, hx143_1, hx143_2, hx143_3, hx143_4, hx143_5, hx143_6, hx143_7, hl143_7, hi143_7⟩ := at_T37 (Kd.V_reads' HO_0.out).2.2 x4_1 p143 q143
                      cases e143
                      obtain ⟨ce143, hce143, hMe143, hcc143⟩ := Kd.V_get HO_0.out z37 x4_1 p143 (by first | exact q143 | exact of_decide_eq_true (by first | (with_reducible assumption) | assumption) | (have e_ := (Kd.V_reads' HO_0.out).1; omega))
                      obtain ⟨ua143_7, uc143_7, rfl, ul143_7, ge143_7⟩ := k37_openF hMe143
                      have hv143_7 := hcc143 7 _ rfl
                      rw [add_field _ _ 7 (by omega)] at hv143_7
                      replace hv143_7 := Option.some.inj (hv143_7.symm.trans hx143_7)
                      injection hv143_7 with hva_ hvn_ hvc_
                      rw [hva_] at ge143_7
                      rw [hvc_] at ul143_7
                      have HL143_7 := Aside0.mk (show Kd.V (Kd.int .u8) 5 _ w.heap.size _ _ ((rd_T37 l0 x4_1).f7) from Kd.V_mk ul143_7 ge143_7)
                      clear hva_ hvn_ hvc_ ge143_7 ul143_7
                      clear hcc143 hce143
                      have HR143_7 := Aside0.mk hi143_7
                      have HC143_7 := Aside0.mk hl143_7
                      clear hi143_7 hl143_7
                      replace p143 := eq_true p143
                      replace q143 := eq_true q143
                      go_wp2_with (first | ((with_reducible refine gate_dst (N := 5) rfl ?_); refine box_event ?hg (N := 5) ?hd (cs := #[.int .i64 0, .int .i64 0, .int .i64 0, .int .i64 0, .int .i64 0, .string (⟨#[]⟩ : ByteArray), .string (⟨#[]⟩ : ByteArray), .slice none 0 0]) (t := 37) ?hr ?_; (case hd => rfl); (case hg => rfl); (case hr => first | (go_simp; done) | (go_simp; rfl)); intro gb144 hg w12 hbox hb; have n0_ := Aside0.mk (Kd.V_below (Kd.V_elderB (by (with_reducible repeat (first | apply Kd.V_alloc | apply Kd.V_drewN | apply Kd.V_drew)); exact HO_0.out) gb144 (Nat.le_of_eq hg.symm)) hb); have n1_ := Aside0.mk (Kd.N_below (Kd.N_elderB (by (with_reducible repeat (first | apply Kd.N_alloc | apply Kd.N_drewN | apply Kd.N_drew)); exact HO_3.out) gb144 (Nat.le_of_eq hg.symm)) hb); have n2_ := Aside0.mk (Kd.V_below (Kd.V_elderB (by (with_reducible repeat (first | apply Kd.V_alloc | apply Kd.V_drewN | apply Kd.V_drew)); exact HL143_7.out) gb144 (Nat.le_of_eq hg.symm)) hb); have n3_ := Aside0.mk (Kd.C_below (by repeat (first | (with_reducible exact HR143_7.out) | (with_reducible refine Kd.C_alloc ?_ _) | (with_reducible refine Kd.C_drewN ?_ _) | (with_reducible refine Kd.C_drew ?_) | exact HR143_7.out)) hb); have n4_ := Aside0.mk (below_step (by repeat (first | (with_reducible first | exact HB.out | apply below_alloc | apply pw_below_drewN | apply below_drew1) | exact HB.out)) hb); have n5_ := Aside0.mk (hbox); have n6_ := Aside0.mk ((by rw [hg]; exact (below_size (by repeat (first | (with_reducible first | exact HB.out | apply below_alloc | apply pw_below_drewN | apply below_drew1) | exact HB.out))) : w.heap.size ≤ gb144)); have n7_ := Aside0.mk ((by rw [hg]; exact (below_size (by repeat (first | (with_reducible first | exact HB.out | apply below_alloc | apply pw_below_drewN | apply below_drew1) | exact HB.out))) : w.heap.size ≤ gb144)); clear HO_0; clear HO_3; clear HL143_7; clear HR143_7; clear HB; have HO_0 := n0_; have HO_3 := n1_; have HL143_7 := n2_; have HR143_7 := n3_; have HB := n4_; have BK144 := n5_; have GW144 := n6_; have GE144 := n7_; clear n0_ n1_ n2_ n3_ n4_ n5_ n6_ n7_; clear hb hbox hg; have hcz13_0 : w12.cell? ⟨gb144, 0, none⟩ = some (.int .i64 0) := (blk_cell BK144.out 0).trans rfl; have hcz13_1 : w12.cell? ⟨gb144, 1, none⟩ = some (.int .i64 0) := (blk_cell BK144.out 1).trans rfl; have hcz13_2 : w12.cell? ⟨gb144, 2, none⟩ = some (.int .i64 0) := (blk_cell BK144.out 2).trans rfl; have hcz13_3 : w12.cell? ⟨gb144, 3, none⟩ = some (.int .i64 0) := (blk_cell BK144.out 3).trans rfl; have hcz13_4 : w12.cell? ⟨gb144, 4, none⟩ = some (.int .i64 0) := (blk_cell BK144.out 4).trans rfl; have hcz13_5 : w12.cell? ⟨gb144, 5, none⟩ = some (.string (⟨#[]⟩ : ByteArray)) := (blk_cell BK144.out 5).trans rfl; have hcz13_6 : w12.cell? ⟨gb144, 6, none⟩ = some (.string (⟨#[]⟩ : ByteArray)) := (blk_cell BK144.out 6).trans rfl; have hcz13_7 : w12.cell? ⟨gb144, 7, none⟩ = some (.slice none 0 0) := (blk_cell BK144.out 7).trans rfl; have hfz13_0 := blk_frozen BK144.out 0; have hfz13_1 := blk_frozen BK144.out 1; have hfz13_2 := blk_frozen BK144.out 2; have hfz13_3 := blk_frozen BK144.out 3; have hfz13_4 := blk_frozen BK144.out 4; have hfz13_5 := blk_frozen BK144.out 5; have hfz13_6 := blk_frozen BK144.out 6; have hfz13_7 := blk_frozen BK144.out 7) | ((with_reducible refine gate_store (t := 37) (p := 5) rfl ?_); refine store_event (t := 37) (p := 5) (v := ?vo_w14) (w1 := ((((((((w12.setCell ⟨gb144, 0, none⟩ (.int .i64 ((rd_T37 l0 x4_1).f0))).setCell ⟨gb144, 1, none⟩ (.int .i64 ((rd_T37 l0 x4_1).f1))).setCell ⟨gb144, 2, none⟩ (.int .i64 ((rd_T37 l0 x4_1).f2))).setCell ⟨gb144, 3, none⟩ (.int .i64 ((rd_T37 l0 x4_1).f3))).setCell ⟨gb144, 4, none⟩ (.int .i64 ((rd_T37 l0 x4_1).f4))).setCell ⟨gb144, 5, none⟩ (.string ((rd_T37 l0 x4_1).f5))).setCell ⟨gb144, 6, none⟩ (.string ((rd_T37 l0 x4_1).f6))).setCell ⟨gb144, 7, none⟩ (.slice A143_7 ((rd_T37 l0 x4_1).f7).length c143_7))) ?hg ?ho ?hn ?hr ?_; (case ho => rfl); (case hg => rfl); (case hn => rfl); (case hr => first | (go_simp; done) | (go_simp; rfl)); intro w14 hw; have n0_ : Aside0 (Kd.V k37 37 w14 w.heap.size (fun k_ => (P0_ k_ ∨ w.heap.size ≤ k_) ∧ some k_ ≠ (u3 : Value).ownBlock ∧ k_ ≠ gb144) (.slice (some ad143) l0.length c0) l0) := ⟨(by rw [hw]; exact (by (with_reducible repeat (first | apply Kd.V_alloc | apply Kd.V_drewN | apply Kd.V_drew)); exact Kd.V_mono (Kd.V_far (p := ⟨gb144, 7, none⟩) (Kd.V_far (p := ⟨gb144, 6, none⟩) (Kd.V_far (p := ⟨gb144, 5, none⟩) (Kd.V_far (p := ⟨gb144, 4, none⟩) (Kd.V_far (p := ⟨gb144, 3, none⟩) (Kd.V_far (p := ⟨gb144, 2, none⟩) (Kd.V_far (p := ⟨gb144, 1, none⟩) (Kd.V_far (p := ⟨gb144, 0, none⟩) (Kd.V_mono HO_0.out (fun k_ hk => (⟨hk, hk.2⟩ : _ ∧ k_ ≠ gb144))) (fun _ hk => hk.2) (.int .i64 ((rd_T37 l0 x4_1).f0))) (fun _ hk => hk.2) (.int .i64 ((rd_T37 l0 x4_1).f1))) (fun _ hk => hk.2) (.int .i64 ((rd_T37 l0 x4_1).f2))) (fun _ hk => hk.2) (.int .i64 ((rd_T37 l0 x4_1).f3))) (fun _ hk => hk.2) (.int .i64 ((rd_T37 l0 x4_1).f4))) (fun _ hk => hk.2) (.string ((rd_T37 l0 x4_1).f5))) (fun _ hk => hk.2) (.string ((rd_T37 l0 x4_1).f6))) (fun _ hk => hk.2) (.slice A143_7 ((rd_T37 l0 x4_1).f7).length c143_7)) (fun _ hk => ⟨hk.1.1.1, ⟨hk.1.1.2, hk.1.2⟩⟩)))⟩; have n1_ : Aside0 (Kd.N k37 37 w14 w.heap.size (fun k_ => (P0_ k_ ∨ w.heap.size ≤ k_) ∧ k_ ≠ gb144) u3 x3_1) := ⟨(by rw [hw]; exact (by (with_reducible repeat (first | apply Kd.N_alloc | apply Kd.N_drewN | apply Kd.N_drew)); exact Kd.N_mono (Kd.N_far (p := ⟨gb144, 7, none⟩) (Kd.N_far (p := ⟨gb144, 6, none⟩) (Kd.N_far (p := ⟨gb144, 5, none⟩) (Kd.N_far (p := ⟨gb144, 4, none⟩) (Kd.N_far (p := ⟨gb144, 3, none⟩) (Kd.N_far (p := ⟨gb144, 2, none⟩) (Kd.N_far (p := ⟨gb144, 1, none⟩) (Kd.N_far (p := ⟨gb144, 0, none⟩) (Kd.N_mono HO_3.out (fun k_ hk => (⟨hk, hk.2⟩ : _ ∧ k_ ≠ gb144))) (fun _ hk => hk.2) (.int .i64 ((rd_T37 l0 x4_1).f0))) (fun _ hk => hk.2) (.int .i64 ((rd_T37 l0 x4_1).f1))) (fun _ hk => hk.2) (.int .i64 ((rd_T37 l0 x4_1).f2))) (fun _ hk => hk.2) (.int .i64 ((rd_T37 l0 x4_1).f3))) (fun _ hk => hk.2) (.int .i64 ((rd_T37 l0 x4_1).f4))) (fun _ hk => hk.2) (.string ((rd_T37 l0 x4_1).f5))) (fun _ hk => hk.2) (.string ((rd_T37 l0 x4_1).f6))) (fun _ hk => hk.2) (.slice A143_7 ((rd_T37 l0 x4_1).f7).length c143_7)) (fun _ hk => ⟨hk.1.1, hk.1.2⟩)))⟩; have n2_ : Aside0 (Kd.V (Kd.int .u8) 5 w14 w.heap.size (fun k_ => (P0_ k_ ∨ w.heap.size ≤ k_) ∧ some k_ ≠ (u3 : Value).ownBlock ∧ k_ ≠ gb144) (.slice A143_7 ((rd_T37 l0 x4_1).f7).length c143_7) ((rd_T37 l0 x4_1).f7)) := ⟨(by rw [hw]; exact (by (with_reducible repeat (first | apply Kd.V_alloc | apply Kd.V_drewN | apply Kd.V_drew)); exact Kd.V_mono (Kd.V_far (p := ⟨gb144, 7, none⟩) (Kd.V_far (p := ⟨gb144, 6, none⟩) (Kd.V_far (p := ⟨gb144, 5, none⟩) (Kd.V_far (p := ⟨gb144, 4, none⟩) (Kd.V_far (p := ⟨gb144, 3, none⟩) (Kd.V_far (p := ⟨gb144, 2, none⟩) (Kd.V_far (p := ⟨gb144, 1, none⟩) (Kd.V_far (p := ⟨gb144, 0, none⟩) (Kd.V_mono HL143_7.out (fun k_ hk => (⟨hk, hk.2⟩ : _ ∧ k_ ≠ gb144))) (fun _ hk => hk.2) (.int .i64 ((rd_T37 l0 x4_1).f0))) (fun _ hk => hk.2) (.int .i64 ((rd_T37 l0 x4_1).f1))) (fun _ hk => hk.2) (.int .i64 ((rd_T37 l0 x4_1).f2))) (fun _ hk => hk.2) (.int .i64 ((rd_T37 l0 x4_1).f3))) (fun _ hk => hk.2) (.int .i64 ((rd_T37 l0 x4_1).f4))) (fun _ hk => hk.2) (.string ((rd_T37 l0 x4_1).f5))) (fun _ hk => hk.2) (.string ((rd_T37 l0 x4_1).f6))) (fun _ hk => hk.2) (.slice A143_7 ((rd_T37 l0 x4_1).f7).length c143_7)) (fun _ hk => ⟨hk.1.1.1, ⟨hk.1.1.2, hk.1.2⟩⟩)))⟩; have n3_ : Aside0 (w14.heap[gb144]? = some (.cells #[.int .i64 ((rd_T37 l0 x4_1).f0), .int .i64 ((rd_T37 l0 x4_1).f1), .int .i64 ((rd_T37 l0 x4_1).f2), .int .i64 ((rd_T37 l0 x4_1).f3), .int .i64 ((rd_T37 l0 x4_1).f4), .string ((rd_T37 l0 x4_1).f5), .string ((rd_T37 l0 x4_1).f6), .slice A143_7 ((rd_T37 l0 x4_1).f7).length c143_7] 37 (0, 0))) := ⟨(by rw [hw]; exact (by (with_reducible repeat (first | refine blk_drewN ?_ _ | refine blk_drew ?_ | refine blk_alloc ?_ _)); refine blk_put (cs := #[.int .i64 ((rd_T37 l0 x4_1).f0), .int .i64 ((rd_T37 l0 x4_1).f1), .int .i64 ((rd_T37 l0 x4_1).f2), .int .i64 ((rd_T37 l0 x4_1).f3), .int .i64 ((rd_T37 l0 x4_1).f4), .string ((rd_T37 l0 x4_1).f5), .string ((rd_T37 l0 x4_1).f6), .slice none 0 0]) ?_ 7 _ rfl; (with_reducible repeat (first | refine blk_drewN ?_ _ | refine blk_drew ?_ | refine blk_alloc ?_ _)); refine blk_put (cs := #[.int .i64 ((rd_T37 l0 x4_1).f0), .int .i64 ((rd_T37 l0 x4_1).f1), .int .i64 ((rd_T37 l0 x4_1).f2), .int .i64 ((rd_T37 l0 x4_1).f3), .int .i64 ((rd_T37 l0 x4_1).f4), .string ((rd_T37 l0 x4_1).f5), .string (⟨#[]⟩ : ByteArray), .slice none 0 0]) ?_ 6 _ rfl; (with_reducible repeat (first | refine blk_drewN ?_ _ | refine blk_drew ?_ | refine blk_alloc ?_ _)); refine blk_put (cs := #[.int .i64 ((rd_T37 l0 x4_1).f0), .int .i64 ((rd_T37 l0 x4_1).f1), .int .i64 ((rd_T37 l0 x4_1).f2), .int .i64 ((rd_T37 l0 x4_1).f3), .int .i64 ((rd_T37 l0 x4_1).f4), .string (⟨#[]⟩ : ByteArray), .string (⟨#[]⟩ : ByteArray), .slice none 0 0]) ?_ 5 _ rfl; (with_reducible repeat (first | refine blk_drewN ?_ _ | refine blk_drew ?_ | refine blk_alloc ?_ _)); refine blk_put (cs := #[.int .i64 ((rd_T37 l0 x4_1).f0), .int .i64 ((rd_T37 l0 x4_1).f1), .int .i64 ((rd_T37 l0 x4_1).f2), .int .i64 ((rd_T37 l0 x4_1).f3), .int .i64 0, .string (⟨#[]⟩ : ByteArray), .string (⟨#[]⟩ : ByteArray), .slice none 0 0]) ?_ 4 _ rfl; (with_reducible repeat (first | refine blk_drewN ?_ _ | refine blk_drew ?_ | refine blk_alloc ?_ _)); refine blk_put (cs := #[.int .i64 ((rd_T37 l0 x4_1).f0), .int .i64 ((rd_T37 l0 x4_1).f1), .int .i64 ((rd_T37 l0 x4_1).f2), .int .i64 0, .int .i64 0, .string (⟨#[]⟩ : ByteArray), .string (⟨#[]⟩ : ByteArray), .slice none 0 0]) ?_ 3 _ rfl; (with_reducible repeat (first | refine blk_drewN ?_ _ | refine blk_drew ?_ | refine blk_alloc ?_ _)); refine blk_put (cs := #[.int .i64 ((rd_T37 l0 x4_1).f0), .int .i64 ((rd_T37 l0 x4_1).f1), .int .i64 0, .int .i64 0, .int .i64 0, .string (⟨#[]⟩ : ByteArray), .string (⟨#[]⟩ : ByteArray), .slice none 0 0]) ?_ 2 _ rfl; (with_reducible repeat (first | refine blk_drewN ?_ _ | refine blk_drew ?_ | refine blk_alloc ?_ _)); refine blk_put (cs := #[.int .i64 ((rd_T37 l0 x4_1).f0), .int .i64 0, .int .i64 0, .int .i64 0, .int .i64 0, .string (⟨#[]⟩ : ByteArray), .string (⟨#[]⟩ : ByteArray), .slice none 0 0]) ?_ 1 _ rfl; (with_reducible repeat (first | refine blk_drewN ?_ _ | refine blk_drew ?_ | refine blk_alloc ?_ _)); refine blk_put (cs := #[.int .i64 0, .int .i64 0, .int .i64 0, .int .i64 0, .int .i64 0, .string (⟨#[]⟩ : ByteArray), .string (⟨#[]⟩ : ByteArray), .slice none 0 0]) ?_ 0 _ rfl; (with_reducible repeat (first | refine blk_drewN ?_ _ | refine blk_drew ?_ | refine blk_alloc ?_ _)); exact BK144.out))⟩; have n4_ : Aside0 (Below w.heap.size w w14) := ⟨(by rw [hw]; exact (by repeat (first | (with_reducible first | exact HB.out | apply below_alloc | apply pw_below_drewN | apply below_drew1 | refine below_set ?_ GE144.out) | exact HB.out)))⟩; clear hw; clear HO_0; clear HO_3; clear HL143_7; clear BK144; clear HB; have HO_0 := n0_; have HO_3 := n1_; have HL143_7 := n2_; have BK144 := n3_; have HB := n4_; clear n0_ n1_ n2_ n3_ n4_; have hcz15_0 : w14.cell? ⟨gb144, 0, none⟩ = some (.int .i64 ((rd_T37 l0 x4_1).f0)) := (blk_cell BK144.out 0).trans rfl; have hcz15_1 : w14.cell? ⟨gb144, 1, none⟩ = some (.int .i64 ((rd_T37 l0 x4_1).f1)) := (blk_cell BK144.out 1).trans rfl; have hcz15_2 : w14.cell? ⟨gb144, 2, none⟩ = some (.int .i64 ((rd_T37 l0 x4_1).f2)) := (blk_cell BK144.out 2).trans rfl; have hcz15_3 : w14.cell? ⟨gb144, 3, none⟩ = some (.int .i64 ((rd_T37 l0 x4_1).f3)) := (blk_cell BK144.out 3).trans rfl; have hcz15_4 : w14.cell? ⟨gb144, 4, none⟩ = some (.int .i64 ((rd_T37 l0 x4_1).f4)) := (blk_cell BK144.out 4).trans rfl; have hcz15_5 : w14.cell? ⟨gb144, 5, none⟩ = some (.string ((rd_T37 l0 x4_1).f5)) := (blk_cell BK144.out 5).trans rfl; have hcz15_6 : w14.cell? ⟨gb144, 6, none⟩ = some (.string ((rd_T37 l0 x4_1).f6)) := (blk_cell BK144.out 6).trans rfl; have hcz15_7 : w14.cell? ⟨gb144, 7, none⟩ = some (.slice A143_7 ((rd_T37 l0 x4_1).f7).length c143_7) := (blk_cell BK144.out 7).trans rfl; have hfz15_0 := blk_frozen BK144.out 0; have hfz15_1 := blk_frozen BK144.out 1; have hfz15_2 := blk_frozen BK144.out 2; have hfz15_3 := blk_frozen BK144.out 3; have hfz15_4 := blk_frozen BK144.out 4; have hfz15_5 := blk_frozen BK144.out 5; have hfz15_6 := blk_frozen BK144.out 6; have hfz15_7 := blk_frozen BK144.out 7; have q16 : (300 : Int) ≤ ((((rd_T37 l0 x4_1).f7).length : Int) : Int) := of_decide_eq_true (by first | (with_reducible assumption) | assumption); obtain ⟨i016, hi016, _, hsz16, _⟩ := info_parts info5; have hroom16 : ((rd_T37 l0 x4_1).f7).length ≤ c143_7 := HC143_7.out; have hC16 : Kd.F (Kd.int .u8) _ _ A143_7 ((rd_T37 l0 x4_1).f7).length ((rd_T37 l0 x4_1).f7) := (Kd.V_at (base := w.heap.size) HL143_7.out).2.2; have hcut16 := cut_to (P := Tryd.prog) 33 5 .i64 Tryd.underlying33 hi016 A143_7 ((rd_T37 l0 x4_1).f7).length c143_7 300 (by omega) q16 hroom16; have hr16 := Kd.F_take (m := 300) hC16 (by omega); have hy16 : y145.length = (300 : Int).toNat := (by rw [Ny145.out, List.length_take]; omega); rw [← Ny145.out] at hr16; rw [← hy16] at hcut16; have HO149 := Aside0.mk (show Kd.V (Kd.int .u8) 5 _ w.heap.size _ (.slice A143_7 y145.length c143_7) y145 from Kd.V_mk (by omega) hr16); have HC149 := Aside0.mk (show y145.length ≤ c143_7 from by omega); clear hr16 hC16 hroom16 hi016 hsz16; have KY16 := Aside0.mk hy16; clear hy16; replace q16 := eq_true q16) | ((with_reducible refine gate_store (t := 33) (p := 28) rfl ?_); refine store_event (t := 33) (p := 28) (v := ?vo_w17) (w1 := (w14.setCell ⟨gb144, 7, none⟩ (.slice A143_7 y145.length c143_7))) ?hg ?ho ?hn ?hr ?_; (case ho => rfl); (case hg => rfl); (case hn => rfl); (case hr => first | (go_simp; done) | (go_simp; rfl)); intro w17 hw; have n0_ : Aside0 (Kd.V k37 37 w17 w.heap.size (fun k_ => (P0_ k_ ∨ w.heap.size ≤ k_) ∧ some k_ ≠ (u3 : Value).ownBlock ∧ k_ ≠ gb144) (.slice (some ad143) l0.length c0) l0) := ⟨(by rw [hw]; exact (by (with_reducible repeat (first | apply Kd.V_alloc | apply Kd.V_drewN | apply Kd.V_drew)); exact Kd.V_mono (Kd.V_far (p := ⟨gb144, 7, none⟩) (Kd.V_mono HO_0.out (fun k_ hk => (⟨hk, hk.2.2⟩ : _ ∧ k_ ≠ gb144))) (fun _ hk => hk.2) (.slice A143_7 y145.length c143_7)) (fun _ hk => ⟨hk.1.1, ⟨hk.1.2.1, hk.1.2.2⟩⟩)))⟩; have n1_ : Aside0 (Kd.N k37 37 w17 w.heap.size (fun k_ => (P0_ k_ ∨ w.heap.size ≤ k_) ∧ k_ ≠ gb144) u3 x3_1) := ⟨(by rw [hw]; exact (by (with_reducible repeat (first | apply Kd.N_alloc | apply Kd.N_drewN | apply Kd.N_drew)); exact Kd.N_mono (Kd.N_far (p := ⟨gb144, 7, none⟩) (Kd.N_mono HO_3.out (fun k_ hk => (⟨hk, hk.2⟩ : _ ∧ k_ ≠ gb144))) (fun _ hk => hk.2) (.slice A143_7 y145.length c143_7)) (fun _ hk => ⟨hk.1.1, hk.1.2⟩)))⟩; have n2_ : Aside0 (Kd.V (Kd.int .u8) 5 w17 w.heap.size (fun k_ => (P0_ k_ ∨ w.heap.size ≤ k_) ∧ some k_ ≠ (u3 : Value).ownBlock ∧ k_ ≠ gb144) (.slice A143_7 ((rd_T37 l0 x4_1).f7).length c143_7) ((rd_T37 l0 x4_1).f7)) := ⟨(by rw [hw]; exact (by (with_reducible repeat (first | apply Kd.V_alloc | apply Kd.V_drewN | apply Kd.V_drew)); exact Kd.V_mono (Kd.V_far (p := ⟨gb144, 7, none⟩) (Kd.V_mono HL143_7.out (fun k_ hk => (⟨hk, hk.2.2⟩ : _ ∧ k_ ≠ gb144))) (fun _ hk => hk.2) (.slice A143_7 y145.length c143_7)) (fun _ hk => ⟨hk.1.1, ⟨hk.1.2.1, hk.1.2.2⟩⟩)))⟩; have n3_ : Aside0 (Kd.V (Kd.int .u8) 5 w17 w.heap.size (fun k_ => (P0_ k_ ∨ w.heap.size ≤ k_) ∧ some k_ ≠ (u3 : Value).ownBlock ∧ k_ ≠ gb144) (.slice A143_7 y145.length c143_7) y145) := ⟨(by rw [hw]; exact (by (with_reducible repeat (first | apply Kd.V_alloc | apply Kd.V_drewN | apply Kd.V_drew)); exact Kd.V_mono (Kd.V_far (p := ⟨gb144, 7, none⟩) (Kd.V_mono HO149.out (fun k_ hk => (⟨hk, hk.2.2⟩ : _ ∧ k_ ≠ gb144))) (fun _ hk => hk.2) (.slice A143_7 y145.length c143_7)) (fun _ hk => ⟨hk.1.1, ⟨hk.1.2.1, hk.1.2.2⟩⟩)))⟩; have n4_ : Aside0 (w17.heap[gb144]? = some (.cells #[.int .i64 ((rd_T37 l0 x4_1).f0), .int .i64 ((rd_T37 l0 x4_1).f1), .int .i64 ((rd_T37 l0 x4_1).f2), .int .i64 ((rd_T37 l0 x4_1).f3), .int .i64 ((rd_T37 l0 x4_1).f4), .string ((rd_T37 l0 x4_1).f5), .string ((rd_T37 l0 x4_1).f6), .slice A143_7 y145.length c143_7] 37 (0, 0))) := ⟨(by rw [hw]; exact (by (with_reducible repeat (first | refine blk_drewN ?_ _ | refine blk_drew ?_ | refine blk_alloc ?_ _)); refine blk_put (cs := #[.int .i64 ((rd_T37 l0 x4_1).f0), .int .i64 ((rd_T37 l0 x4_1).f1), .int .i64 ((rd_T37 l0 x4_1).f2), .int .i64 ((rd_T37 l0 x4_1).f3), .int .i64 ((rd_T37 l0 x4_1).f4), .string ((rd_T37 l0 x4_1).f5), .string ((rd_T37 l0 x4_1).f6), .slice A143_7 ((rd_T37 l0 x4_1).f7).length c143_7]) ?_ 7 _ rfl; (with_reducible repeat (first | refine blk_drewN ?_ _ | refine blk_drew ?_ | refine blk_alloc ?_ _)); exact BK144.out))⟩; have n5_ : Aside0 (Below w.heap.size w w17) := ⟨(by rw [hw]; exact (by repeat (first | (with_reducible first | exact HB.out | apply below_alloc | apply pw_below_drewN | apply below_drew1 | refine below_set ?_ GE144.out) | exact HB.out)))⟩; clear hw; clear HO_0; clear HO_3; clear HL143_7; clear HO149; clear BK144; clear HB; have HO_0 := n0_; have HO_3 := n1_; have HL143_7 := n2_; have HO149 := n3_; have BK144 := n4_; have HB := n5_; clear n0_ n1_ n2_ n3_ n4_ n5_; have hcz18_0 : w17.cell? ⟨gb144, 0, none⟩ = some (.int .i64 ((rd_T37 l0 x4_1).f0)) := (blk_cell BK144.out 0).trans rfl; have hcz18_1 : w17.cell? ⟨gb144, 1, none⟩ = some (.int .i64 ((rd_T37 l0 x4_1).f1)) := (blk_cell BK144.out 1).trans rfl; have hcz18_2 : w17.cell? ⟨gb144, 2, none⟩ = some (.int .i64 ((rd_T37 l0 x4_1).f2)) := (blk_cell BK144.out 2).trans rfl; have hcz18_3 : w17.cell? ⟨gb144, 3, none⟩ = some (.int .i64 ((rd_T37 l0 x4_1).f3)) := (blk_cell BK144.out 3).trans rfl; have hcz18_4 : w17.cell? ⟨gb144, 4, none⟩ = some (.int .i64 ((rd_T37 l0 x4_1).f4)) := (blk_cell BK144.out 4).trans rfl; have hcz18_5 : w17.cell? ⟨gb144, 5, none⟩ = some (.string ((rd_T37 l0 x4_1).f5)) := (blk_cell BK144.out 5).trans rfl; have hcz18_6 : w17.cell? ⟨gb144, 6, none⟩ = some (.string ((rd_T37 l0 x4_1).f6)) := (blk_cell BK144.out 6).trans rfl; have hcz18_7 : w17.cell? ⟨gb144, 7, none⟩ = some (.slice A143_7 y145.length c143_7) := (blk_cell BK144.out 7).trans rfl; have hfz18_0 := blk_frozen BK144.out 0; have hfz18_1 := blk_frozen BK144.out 1; have hfz18_2 := blk_frozen BK144.out 2; have hfz18_3 := blk_frozen BK144.out 3; have hfz18_4 := blk_frozen BK144.out 4; have hfz18_5 := blk_frozen BK144.out 5; have hfz18_6 := blk_frozen BK144.out 6; have hfz18_7 := blk_frozen BK144.out 7) | ((with_reducible refine gate_builtin (b := .append) (xs := #[.tmp 29, .tmp 31]) rfl ?_); at_builtin; refine Kd.N_append k37 (w0 := w) w.heap.size rfl (.tmp 29) (.tmp 31) 22 37 (.agg #[(.int .i64 0), (.int .i64 0), (.int .i64 0), (.int .i64 0), (.int .i64 0), (.string ⟨#[]⟩), (.string ⟨#[]⟩), (.slice none 0 0)]) 96 rfl Tryd.underlying22 info37 rfl (by decide) (by omega) u3 x3_1 (⟨(rd_T37 l0 x4_1).f0, (rd_T37 l0 x4_1).f1, (rd_T37 l0 x4_1).f2, (rd_T37 l0 x4_1).f3, (rd_T37 l0 x4_1).f4, (rd_T37 l0 x4_1).f5, (rd_T37 l0 x4_1).f6, y145⟩ : S37) [.int .i64 ((rd_T37 l0 x4_1).f0), .int .i64 ((rd_T37 l0 x4_1).f1), .int .i64 ((rd_T37 l0 x4_1).f2), .int .i64 ((rd_T37 l0 x4_1).f3), .int .i64 ((rd_T37 l0 x4_1).f4), .string ((rd_T37 l0 x4_1).f5), .string ((rd_T37 l0 x4_1).f6), .slice A143_7 y145.length c143_7] (fun k_ => (P0_ k_ ∨ w.heap.size ≤ k_) ∧ k_ ≠ gb144) (fun k_ => ((fun k_ => (P0_ k_ ∨ w.heap.size ≤ k_) ∧ k_ ≠ gb144)) k_ ∧ some k_ ≠ (u3 : Value).ownBlock) rfl rfl ?aP (fun _ hk => hk) ?aF ?aO ?aB ?aS ?aL ?_; (case aP => exact (k37_mkF _ _ (⟨(rd_T37 l0 x4_1).f0, (rd_T37 l0 x4_1).f1, (rd_T37 l0 x4_1).f2, (rd_T37 l0 x4_1).f3, (rd_T37 l0 x4_1).f4, (rd_T37 l0 x4_1).f5, (rd_T37 l0 x4_1).f6, y145⟩ : S37) (Kd.V_reads' (Kd.V_mono (ok' := (fun k_ => ((fun k_ => (P0_ k_ ∨ w.heap.size ≤ k_) ∧ k_ ≠ gb144)) k_ ∧ some k_ ≠ (u3 : Value).ownBlock)) (HO149.out) (fun k_ hk => ⟨⟨hk.1, hk.2.2⟩, hk.2.1⟩))).2.1 (Kd.V_F (Kd.V_mono (ok' := (fun k_ => ((fun k_ => (P0_ k_ ∨ w.heap.size ≤ k_) ∧ k_ ≠ gb144)) k_ ∧ some k_ ≠ (u3 : Value).ownBlock)) (HO149.out) (fun k_ hk => ⟨⟨hk.1, hk.2.2⟩, hk.2.1⟩))))); (case aB => exact (by repeat (first | (with_reducible first | exact HB.out | apply below_alloc | apply pw_below_drewN | apply below_drew1 | refine below_set ?_ GE144.out) | exact HB.out))); (case aF => exact (fun k_ hk => ⟨(.inr (Nat.le_trans (below_size (by repeat (first | (with_reducible first | exact HB.out | apply below_alloc | apply pw_below_drewN | apply below_drew1 | refine below_set ?_ GE144.out) | exact HB.out))) hk)), Kd.freshB (g := gb144) (o := .cells #[.int .i64 ((rd_T37 l0 x4_1).f0), .int .i64 ((rd_T37 l0 x4_1).f1), .int .i64 ((rd_T37 l0 x4_1).f2), .int .i64 ((rd_T37 l0 x4_1).f3), .int .i64 ((rd_T37 l0 x4_1).f4), .string ((rd_T37 l0 x4_1).f5), .string ((rd_T37 l0 x4_1).f6), .slice A143_7 y145.length c143_7] 37 (0, 0)) (by (with_reducible repeat (first | refine blk_drewN ?_ _ | refine blk_drew ?_ | refine blk_alloc ?_ _)); exact BK144.out) k_ hk⟩)); (case aO => exact (by (with_reducible repeat (first | apply Kd.N_alloc | apply Kd.N_drewN | apply Kd.N_drew)); exact HO_3.out)); (case aS => exact (below_size (by repeat (first | (with_reducible first | exact HB.out | apply below_alloc | apply pw_below_drewN | apply below_drew1 | refine below_set ?_ GE144.out) | exact HB.out)))); (case aL => have := LMc11.out; omega); intro v151 w19 ho hb hg hat; rw [← Ny150.out] at ho; have n0_ := Aside0.mk (Kd.V_afterv (ok := (fun k_ => (P0_ k_ ∨ w.heap.size ≤ k_) ∧ k_ ≠ gb144)) (by (with_reducible repeat (first | apply Kd.V_alloc | apply Kd.V_drewN | apply Kd.V_drew)); exact Kd.V_mono HO_0.out (fun _ hk => ⟨⟨hk.1, hk.2.2⟩, hk.2.1⟩)) hg hat); have n1_ := Aside0.mk (Kd.V_afterv (ok := (fun k_ => (P0_ k_ ∨ w.heap.size ≤ k_) ∧ k_ ≠ gb144)) (by (with_reducible repeat (first | apply Kd.V_alloc | apply Kd.V_drewN | apply Kd.V_drew)); exact Kd.V_mono HL143_7.out (fun _ hk => ⟨⟨hk.1, hk.2.2⟩, hk.2.1⟩)) hg hat); have n2_ := Aside0.mk (blk_grown (g := gb144) (o := .cells #[.int .i64 ((rd_T37 l0 x4_1).f0), .int .i64 ((rd_T37 l0 x4_1).f1), .int .i64 ((rd_T37 l0 x4_1).f2), .int .i64 ((rd_T37 l0 x4_1).f3), .int .i64 ((rd_T37 l0 x4_1).f4), .string ((rd_T37 l0 x4_1).f5), .string ((rd_T37 l0 x4_1).f6), .slice A143_7 y145.length c143_7] 37 (0, 0)) (by (with_reducible repeat (first | refine blk_drewN ?_ _ | refine blk_drew ?_ | refine blk_alloc ?_ _)); exact BK144.out) hg (Kd.N_away HO_3.out (fun _ hk => hk.2))); have n3_ := Aside0.mk (Kd.V_afterv (ok := (fun k_ => (P0_ k_ ∨ w.heap.size ≤ k_) ∧ k_ ≠ gb144)) (by (with_reducible repeat (first | apply Kd.V_alloc | apply Kd.V_drewN | apply Kd.V_drew)); exact Kd.V_mono HO149.out (fun _ hk => ⟨⟨hk.1, hk.2.2⟩, hk.2.1⟩)) hg hat); have n4_ := Aside0.mk (hb); have n5_ := Aside0.mk (ho); clear HO_0; clear HL143_7; clear BK144; clear HO149; clear HB; clear HO_3; have HO_0 := n0_; have HL143_7 := n1_; have BK144 := n2_; have HO149 := n3_; have HB := n4_; have HO152 := n5_; clear n0_ n1_ n2_ n3_ n4_ n5_; clear ho hb hg hat))
                      go_roundg kj3
                      case measure => have := HK1.out; have := HJ3.out; omega
                      case rel => exact ⟨(y150), (wrap64 (x4_1 + 1)), (by first | rfl | (simp; done) | (simp [*]; done)), H', ⟨by have := HK1.out; have := HJ3.out; omega⟩, ⟨by (with_reducible repeat (first | apply Kd.V_alloc | apply Kd.V_drewN | apply Kd.V_drew)); exact Kd.V_mono HO_0.out (fun _ hk => ⟨hk.1.1, hk.2⟩)⟩, ⟨by (with_reducible repeat (first | apply Kd.N_alloc | apply Kd.N_drewN | apply Kd.N_drew)); exact Kd.N_mono HO152.out (fun _ hk => hk.1)⟩, ⟨by repeat (first | (with_reducible first | exact HB.out | apply below_alloc | apply pw_below_drewN | apply below_drew1 | refine below_set ?_ GE144.out) | exact HB.out)⟩⟩
                    · rw [if_neg c11] at H
                      exact absurd H (by simp)
                  · rw [if_neg c10] at H
                    exact absurd H (by simp)
                · rw [if_neg c9] at H
                  have c9b0 : decide (300 < (((rd_T37 l0 x4_1).f7).length : Int)) = false := decide_eq_false c9
                  have c9b1 : decide (300 < ((rd_T37 l0 x4_1).f7).length) = false := decide_eq_false (by omega)
                  clear c9
                  by_cases c20 : x3_1.length < 1466015503701
                  · rw [if_pos c20] at H
                    have LMc20 := Aside0.mk c20
                    clear c20
                    obtain ⟨y153, hy153⟩ : ∃ y_ : List (S37), y_ = (x3_1 ++ [(⟨(rd_T37 l0 x4_1).f0, (rd_T37 l0 x4_1).f1, (rd_T37 l0 x4_1).f2, (rd_T37 l0 x4_1).f3, (rd_T37 l0 x4_1).f4, (rd_T37 l0 x4_1).f5, (rd_T37 l0 x4_1).f6, (rd_T37 l0 x4_1).f7⟩ : S37)]) := ⟨_, rfl⟩
                    replace H : (cambiumlaw26_few.l0 kj3 l0 y153 (wrap64 (x4_1 + 1))) = some r := by first | (rw [hy153]; with_reducible exact H) | (have H2_ := (Option.bind_some _ _).symm.trans H; rw [hy153]; with_reducible exact H2_) | (have H2_ := (Option.bind_some _ _).symm.trans H; with_reducible exact H2_) | with_reducible exact H | (rw [hy153]; exact H) | exact H
                    have Ny153 := Aside0.mk hy153
                    clear hy153
                    have H' := Aside0.mk H
                    clear H
                    have p143 : 0 ≤ (x4_1 : Int) := of_decide_eq_true (by first | (with_reducible assumption) | assumption)
                    have q143 : x4_1 < (l0.length : Int) := of_decide_eq_true (by first | (with_reducible assumption) | assumption)
                    obtain ⟨ad143, A143_7, c143_7, e143, hx143_0, hx143_1, hx143_2, hx143_3, hx143_4, hx143_5, hx143_6, hx143_7, hl143_7, hi143_7⟩ := at_T37 (Kd.V_reads' HO_0.out).2.2 x4_1 p143 q143
                    cases e143
                    obtain ⟨ce143, hce143, hMe143, hcc143⟩ := Kd.V_get HO_0.out z37 x4_1 p143 (by first | exact q143 | exact of_decide_eq_true (by first | (with_reducible assumption) | assumption) | (have e_ := (Kd.V_reads' HO_0.out).1; omega))
                    obtain ⟨ua143_7, uc143_7, rfl, ul143_7, ge143_7⟩ := k37_openF hMe143
                    have hv143_7 := hcc143 7 _ rfl
                    rw [add_field _ _ 7 (by omega)] at hv143_7
                    replace hv143_7 := Option.some.inj (hv143_7.symm.trans hx143_7)
                    injection hv143_7 with hva_ hvn_ hvc_
                    rw [hva_] at ge143_7
                    rw [hvc_] at ul143_7
                    have HL143_7 := Aside0.mk (show Kd.V (Kd.int .u8) 5 _ w.heap.size _ _ ((rd_T37 l0 x4_1).f7) from Kd.V_mk ul143_7 ge143_7)
                    clear hva_ hvn_ hvc_ ge143_7 ul143_7
                    clear hcc143 hce143
                    have HR143_7 := Aside0.mk hi143_7
                    have HC143_7 := Aside0.mk hl143_7
                    clear hi143_7 hl143_7
                    replace p143 := eq_true p143
                    replace q143 := eq_true q143
                    go_wp2_with (first | ((with_reducible refine gate_dst (N := 5) rfl ?_); refine box_event ?hg (N := 5) ?hd (cs := #[.int .i64 0, .int .i64 0, .int .i64 0, .int .i64 0, .int .i64 0, .string (⟨#[]⟩ : ByteArray), .string (⟨#[]⟩ : ByteArray), .slice none 0 0]) (t := 37) ?hr ?_; (case hd => rfl); (case hg => rfl); (case hr => first | (go_simp; done) | (go_simp; rfl)); intro gb144 hg w21 hbox hb; have n0_ := Aside0.mk (Kd.V_below (Kd.V_elderB (by (with_reducible repeat (first | apply Kd.V_alloc | apply Kd.V_drewN | apply Kd.V_drew)); exact HO_0.out) gb144 (Nat.le_of_eq hg.symm)) hb); have n1_ := Aside0.mk (Kd.N_below (Kd.N_elderB (by (with_reducible repeat (first | apply Kd.N_alloc | apply Kd.N_drewN | apply Kd.N_drew)); exact HO_3.out) gb144 (Nat.le_of_eq hg.symm)) hb); have n2_ := Aside0.mk (Kd.V_below (Kd.V_elderB (by (with_reducible repeat (first | apply Kd.V_alloc | apply Kd.V_drewN | apply Kd.V_drew)); exact HL143_7.out) gb144 (Nat.le_of_eq hg.symm)) hb); have n3_ := Aside0.mk (Kd.C_below (by repeat (first | (with_reducible exact HR143_7.out) | (with_reducible refine Kd.C_alloc ?_ _) | (with_reducible refine Kd.C_drewN ?_ _) | (with_reducible refine Kd.C_drew ?_) | exact HR143_7.out)) hb); have n4_ := Aside0.mk (below_step (by repeat (first | (with_reducible first | exact HB.out | apply below_alloc | apply pw_below_drewN | apply below_drew1) | exact HB.out)) hb); have n5_ := Aside0.mk (hbox); have n6_ := Aside0.mk ((by rw [hg]; exact (below_size (by repeat (first | (with_reducible first | exact HB.out | apply below_alloc | apply pw_below_drewN | apply below_drew1) | exact HB.out))) : w.heap.size ≤ gb144)); have n7_ := Aside0.mk ((by rw [hg]; exact (below_size (by repeat (first | (with_reducible first | exact HB.out | apply below_alloc | apply pw_below_drewN | apply below_drew1) | exact HB.out))) : w.heap.size ≤ gb144)); clear HO_0; clear HO_3; clear HL143_7; clear HR143_7; clear HB; have HO_0 := n0_; have HO_3 := n1_; have HL143_7 := n2_; have HR143_7 := n3_; have HB := n4_; have BK144 := n5_; have GW144 := n6_; have GE144 := n7_; clear n0_ n1_ n2_ n3_ n4_ n5_ n6_ n7_; clear hb hbox hg; have hcz22_0 : w21.cell? ⟨gb144, 0, none⟩ = some (.int .i64 0) := (blk_cell BK144.out 0).trans rfl; have hcz22_1 : w21.cell? ⟨gb144, 1, none⟩ = some (.int .i64 0) := (blk_cell BK144.out 1).trans rfl; have hcz22_2 : w21.cell? ⟨gb144, 2, none⟩ = some (.int .i64 0) := (blk_cell BK144.out 2).trans rfl; have hcz22_3 : w21.cell? ⟨gb144, 3, none⟩ = some (.int .i64 0) := (blk_cell BK144.out 3).trans rfl; have hcz22_4 : w21.cell? ⟨gb144, 4, none⟩ = some (.int .i64 0) := (blk_cell BK144.out 4).trans rfl; have hcz22_5 : w21.cell? ⟨gb144, 5, none⟩ = some (.string (⟨#[]⟩ : ByteArray)) := (blk_cell BK144.out 5).trans rfl; have hcz22_6 : w21.cell? ⟨gb144, 6, none⟩ = some (.string (⟨#[]⟩ : ByteArray)) := (blk_cell BK144.out 6).trans rfl; have hcz22_7 : w21.cell? ⟨gb144, 7, none⟩ = some (.slice none 0 0) := (blk_cell BK144.out 7).trans rfl; have hfz22_0 := blk_frozen BK144.out 0; have hfz22_1 := blk_frozen BK144.out 1; have hfz22_2 := blk_frozen BK144.out 2; have hfz22_3 := blk_frozen BK144.out 3; have hfz22_4 := blk_frozen BK144.out 4; have hfz22_5 := blk_frozen BK144.out 5; have hfz22_6 := blk_frozen BK144.out 6; have hfz22_7 := blk_frozen BK144.out 7) | ((with_reducible refine gate_store (t := 37) (p := 5) rfl ?_); refine store_event (t := 37) (p := 5) (v := ?vo_w23) (w1 := ((((((((w21.setCell ⟨gb144, 0, none⟩ (.int .i64 ((rd_T37 l0 x4_1).f0))).setCell ⟨gb144, 1, none⟩ (.int .i64 ((rd_T37 l0 x4_1).f1))).setCell ⟨gb144, 2, none⟩ (.int .i64 ((rd_T37 l0 x4_1).f2))).setCell ⟨gb144, 3, none⟩ (.int .i64 ((rd_T37 l0 x4_1).f3))).setCell ⟨gb144, 4, none⟩ (.int .i64 ((rd_T37 l0 x4_1).f4))).setCell ⟨gb144, 5, none⟩ (.string ((rd_T37 l0 x4_1).f5))).setCell ⟨gb144, 6, none⟩ (.string ((rd_T37 l0 x4_1).f6))).setCell ⟨gb144, 7, none⟩ (.slice A143_7 ((rd_T37 l0 x4_1).f7).length c143_7))) ?hg ?ho ?hn ?hr ?_; (case ho => rfl); (case hg => rfl); (case hn => rfl); (case hr => first | (go_simp; done) | (go_simp; rfl)); intro w23 hw; have n0_ : Aside0 (Kd.V k37 37 w23 w.heap.size (fun k_ => (P0_ k_ ∨ w.heap.size ≤ k_) ∧ some k_ ≠ (u3 : Value).ownBlock ∧ k_ ≠ gb144) (.slice (some ad143) l0.length c0) l0) := ⟨(by rw [hw]; exact (by (with_reducible repeat (first | apply Kd.V_alloc | apply Kd.V_drewN | apply Kd.V_drew)); exact Kd.V_mono (Kd.V_far (p := ⟨gb144, 7, none⟩) (Kd.V_far (p := ⟨gb144, 6, none⟩) (Kd.V_far (p := ⟨gb144, 5, none⟩) (Kd.V_far (p := ⟨gb144, 4, none⟩) (Kd.V_far (p := ⟨gb144, 3, none⟩) (Kd.V_far (p := ⟨gb144, 2, none⟩) (Kd.V_far (p := ⟨gb144, 1, none⟩) (Kd.V_far (p := ⟨gb144, 0, none⟩) (Kd.V_mono HO_0.out (fun k_ hk => (⟨hk, hk.2⟩ : _ ∧ k_ ≠ gb144))) (fun _ hk => hk.2) (.int .i64 ((rd_T37 l0 x4_1).f0))) (fun _ hk => hk.2) (.int .i64 ((rd_T37 l0 x4_1).f1))) (fun _ hk => hk.2) (.int .i64 ((rd_T37 l0 x4_1).f2))) (fun _ hk => hk.2) (.int .i64 ((rd_T37 l0 x4_1).f3))) (fun _ hk => hk.2) (.int .i64 ((rd_T37 l0 x4_1).f4))) (fun _ hk => hk.2) (.string ((rd_T37 l0 x4_1).f5))) (fun _ hk => hk.2) (.string ((rd_T37 l0 x4_1).f6))) (fun _ hk => hk.2) (.slice A143_7 ((rd_T37 l0 x4_1).f7).length c143_7)) (fun _ hk => ⟨hk.1.1.1, ⟨hk.1.1.2, hk.1.2⟩⟩)))⟩; have n1_ : Aside0 (Kd.N k37 37 w23 w.heap.size (fun k_ => (P0_ k_ ∨ w.heap.size ≤ k_) ∧ k_ ≠ gb144) u3 x3_1) := ⟨(by rw [hw]; exact (by (with_reducible repeat (first | apply Kd.N_alloc | apply Kd.N_drewN | apply Kd.N_drew)); exact Kd.N_mono (Kd.N_far (p := ⟨gb144, 7, none⟩) (Kd.N_far (p := ⟨gb144, 6, none⟩) (Kd.N_far (p := ⟨gb144, 5, none⟩) (Kd.N_far (p := ⟨gb144, 4, none⟩) (Kd.N_far (p := ⟨gb144, 3, none⟩) (Kd.N_far (p := ⟨gb144, 2, none⟩) (Kd.N_far (p := ⟨gb144, 1, none⟩) (Kd.N_far (p := ⟨gb144, 0, none⟩) (Kd.N_mono HO_3.out (fun k_ hk => (⟨hk, hk.2⟩ : _ ∧ k_ ≠ gb144))) (fun _ hk => hk.2) (.int .i64 ((rd_T37 l0 x4_1).f0))) (fun _ hk => hk.2) (.int .i64 ((rd_T37 l0 x4_1).f1))) (fun _ hk => hk.2) (.int .i64 ((rd_T37 l0 x4_1).f2))) (fun _ hk => hk.2) (.int .i64 ((rd_T37 l0 x4_1).f3))) (fun _ hk => hk.2) (.int .i64 ((rd_T37 l0 x4_1).f4))) (fun _ hk => hk.2) (.string ((rd_T37 l0 x4_1).f5))) (fun _ hk => hk.2) (.string ((rd_T37 l0 x4_1).f6))) (fun _ hk => hk.2) (.slice A143_7 ((rd_T37 l0 x4_1).f7).length c143_7)) (fun _ hk => ⟨hk.1.1, hk.1.2⟩)))⟩; have n2_ : Aside0 (Kd.V (Kd.int .u8) 5 w23 w.heap.size (fun k_ => (P0_ k_ ∨ w.heap.size ≤ k_) ∧ some k_ ≠ (u3 : Value).ownBlock ∧ k_ ≠ gb144) (.slice A143_7 ((rd_T37 l0 x4_1).f7).length c143_7) ((rd_T37 l0 x4_1).f7)) := ⟨(by rw [hw]; exact (by (with_reducible repeat (first | apply Kd.V_alloc | apply Kd.V_drewN | apply Kd.V_drew)); exact Kd.V_mono (Kd.V_far (p := ⟨gb144, 7, none⟩) (Kd.V_far (p := ⟨gb144, 6, none⟩) (Kd.V_far (p := ⟨gb144, 5, none⟩) (Kd.V_far (p := ⟨gb144, 4, none⟩) (Kd.V_far (p := ⟨gb144, 3, none⟩) (Kd.V_far (p := ⟨gb144, 2, none⟩) (Kd.V_far (p := ⟨gb144, 1, none⟩) (Kd.V_far (p := ⟨gb144, 0, none⟩) (Kd.V_mono HL143_7.out (fun k_ hk => (⟨hk, hk.2⟩ : _ ∧ k_ ≠ gb144))) (fun _ hk => hk.2) (.int .i64 ((rd_T37 l0 x4_1).f0))) (fun _ hk => hk.2) (.int .i64 ((rd_T37 l0 x4_1).f1))) (fun _ hk => hk.2) (.int .i64 ((rd_T37 l0 x4_1).f2))) (fun _ hk => hk.2) (.int .i64 ((rd_T37 l0 x4_1).f3))) (fun _ hk => hk.2) (.int .i64 ((rd_T37 l0 x4_1).f4))) (fun _ hk => hk.2) (.string ((rd_T37 l0 x4_1).f5))) (fun _ hk => hk.2) (.string ((rd_T37 l0 x4_1).f6))) (fun _ hk => hk.2) (.slice A143_7 ((rd_T37 l0 x4_1).f7).length c143_7)) (fun _ hk => ⟨hk.1.1.1, ⟨hk.1.1.2, hk.1.2⟩⟩)))⟩; have n3_ : Aside0 (w23.heap[gb144]? = some (.cells #[.int .i64 ((rd_T37 l0 x4_1).f0), .int .i64 ((rd_T37 l0 x4_1).f1), .int .i64 ((rd_T37 l0 x4_1).f2), .int .i64 ((rd_T37 l0 x4_1).f3), .int .i64 ((rd_T37 l0 x4_1).f4), .string ((rd_T37 l0 x4_1).f5), .string ((rd_T37 l0 x4_1).f6), .slice A143_7 ((rd_T37 l0 x4_1).f7).length c143_7] 37 (0, 0))) := ⟨(by rw [hw]; exact (by (with_reducible repeat (first | refine blk_drewN ?_ _ | refine blk_drew ?_ | refine blk_alloc ?_ _)); refine blk_put (cs := #[.int .i64 ((rd_T37 l0 x4_1).f0), .int .i64 ((rd_T37 l0 x4_1).f1), .int .i64 ((rd_T37 l0 x4_1).f2), .int .i64 ((rd_T37 l0 x4_1).f3), .int .i64 ((rd_T37 l0 x4_1).f4), .string ((rd_T37 l0 x4_1).f5), .string ((rd_T37 l0 x4_1).f6), .slice none 0 0]) ?_ 7 _ rfl; (with_reducible repeat (first | refine blk_drewN ?_ _ | refine blk_drew ?_ | refine blk_alloc ?_ _)); refine blk_put (cs := #[.int .i64 ((rd_T37 l0 x4_1).f0), .int .i64 ((rd_T37 l0 x4_1).f1), .int .i64 ((rd_T37 l0 x4_1).f2), .int .i64 ((rd_T37 l0 x4_1).f3), .int .i64 ((rd_T37 l0 x4_1).f4), .string ((rd_T37 l0 x4_1).f5), .string (⟨#[]⟩ : ByteArray), .slice none 0 0]) ?_ 6 _ rfl; (with_reducible repeat (first | refine blk_drewN ?_ _ | refine blk_drew ?_ | refine blk_alloc ?_ _)); refine blk_put (cs := #[.int .i64 ((rd_T37 l0 x4_1).f0), .int .i64 ((rd_T37 l0 x4_1).f1), .int .i64 ((rd_T37 l0 x4_1).f2), .int .i64 ((rd_T37 l0 x4_1).f3), .int .i64 ((rd_T37 l0 x4_1).f4), .string (⟨#[]⟩ : ByteArray), .string (⟨#[]⟩ : ByteArray), .slice none 0 0]) ?_ 5 _ rfl; (with_reducible repeat (first | refine blk_drewN ?_ _ | refine blk_drew ?_ | refine blk_alloc ?_ _)); refine blk_put (cs := #[.int .i64 ((rd_T37 l0 x4_1).f0), .int .i64 ((rd_T37 l0 x4_1).f1), .int .i64 ((rd_T37 l0 x4_1).f2), .int .i64 ((rd_T37 l0 x4_1).f3), .int .i64 0, .string (⟨#[]⟩ : ByteArray), .string (⟨#[]⟩ : ByteArray), .slice none 0 0]) ?_ 4 _ rfl; (with_reducible repeat (first | refine blk_drewN ?_ _ | refine blk_drew ?_ | refine blk_alloc ?_ _)); refine blk_put (cs := #[.int .i64 ((rd_T37 l0 x4_1).f0), .int .i64 ((rd_T37 l0 x4_1).f1), .int .i64 ((rd_T37 l0 x4_1).f2), .int .i64 0, .int .i64 0, .string (⟨#[]⟩ : ByteArray), .string (⟨#[]⟩ : ByteArray), .slice none 0 0]) ?_ 3 _ rfl; (with_reducible repeat (first | refine blk_drewN ?_ _ | refine blk_drew ?_ | refine blk_alloc ?_ _)); refine blk_put (cs := #[.int .i64 ((rd_T37 l0 x4_1).f0), .int .i64 ((rd_T37 l0 x4_1).f1), .int .i64 0, .int .i64 0, .int .i64 0, .string (⟨#[]⟩ : ByteArray), .string (⟨#[]⟩ : ByteArray), .slice none 0 0]) ?_ 2 _ rfl; (with_reducible repeat (first | refine blk_drewN ?_ _ | refine blk_drew ?_ | refine blk_alloc ?_ _)); refine blk_put (cs := #[.int .i64 ((rd_T37 l0 x4_1).f0), .int .i64 0, .int .i64 0, .int .i64 0, .int .i64 0, .string (⟨#[]⟩ : ByteArray), .string (⟨#[]⟩ : ByteArray), .slice none 0 0]) ?_ 1 _ rfl; (with_reducible repeat (first | refine blk_drewN ?_ _ | refine blk_drew ?_ | refine blk_alloc ?_ _)); refine blk_put (cs := #[.int .i64 0, .int .i64 0, .int .i64 0, .int .i64 0, .int .i64 0, .string (⟨#[]⟩ : ByteArray), .string (⟨#[]⟩ : ByteArray), .slice none 0 0]) ?_ 0 _ rfl; (with_reducible repeat (first | refine blk_drewN ?_ _ | refine blk_drew ?_ | refine blk_alloc ?_ _)); exact BK144.out))⟩; have n4_ : Aside0 (Below w.heap.size w w23) := ⟨(by rw [hw]; exact (by repeat (first | (with_reducible first | exact HB.out | apply below_alloc | apply pw_below_drewN | apply below_drew1 | refine below_set ?_ GE144.out) | exact HB.out)))⟩; clear hw; clear HO_0; clear HO_3; clear HL143_7; clear BK144; clear HB; have HO_0 := n0_; have HO_3 := n1_; have HL143_7 := n2_; have BK144 := n3_; have HB := n4_; clear n0_ n1_ n2_ n3_ n4_; have hcz24_0 : w23.cell? ⟨gb144, 0, none⟩ = some (.int .i64 ((rd_T37 l0 x4_1).f0)) := (blk_cell BK144.out 0).trans rfl; have hcz24_1 : w23.cell? ⟨gb144, 1, none⟩ = some (.int .i64 ((rd_T37 l0 x4_1).f1)) := (blk_cell BK144.out 1).trans rfl; have hcz24_2 : w23.cell? ⟨gb144, 2, none⟩ = some (.int .i64 ((rd_T37 l0 x4_1).f2)) := (blk_cell BK144.out 2).trans rfl; have hcz24_3 : w23.cell? ⟨gb144, 3, none⟩ = some (.int .i64 ((rd_T37 l0 x4_1).f3)) := (blk_cell BK144.out 3).trans rfl; have hcz24_4 : w23.cell? ⟨gb144, 4, none⟩ = some (.int .i64 ((rd_T37 l0 x4_1).f4)) := (blk_cell BK144.out 4).trans rfl; have hcz24_5 : w23.cell? ⟨gb144, 5, none⟩ = some (.string ((rd_T37 l0 x4_1).f5)) := (blk_cell BK144.out 5).trans rfl; have hcz24_6 : w23.cell? ⟨gb144, 6, none⟩ = some (.string ((rd_T37 l0 x4_1).f6)) := (blk_cell BK144.out 6).trans rfl; have hcz24_7 : w23.cell? ⟨gb144, 7, none⟩ = some (.slice A143_7 ((rd_T37 l0 x4_1).f7).length c143_7) := (blk_cell BK144.out 7).trans rfl; have hfz24_0 := blk_frozen BK144.out 0; have hfz24_1 := blk_frozen BK144.out 1; have hfz24_2 := blk_frozen BK144.out 2; have hfz24_3 := blk_frozen BK144.out 3; have hfz24_4 := blk_frozen BK144.out 4; have hfz24_5 := blk_frozen BK144.out 5; have hfz24_6 := blk_frozen BK144.out 6; have hfz24_7 := blk_frozen BK144.out 7) | ((with_reducible refine gate_builtin (b := .append) (xs := #[.tmp 29, .tmp 31]) rfl ?_); at_builtin; refine Kd.N_append k37 (w0 := w) w.heap.size rfl (.tmp 29) (.tmp 31) 22 37 (.agg #[(.int .i64 0), (.int .i64 0), (.int .i64 0), (.int .i64 0), (.int .i64 0), (.string ⟨#[]⟩), (.string ⟨#[]⟩), (.slice none 0 0)]) 96 rfl Tryd.underlying22 info37 rfl (by decide) (by omega) u3 x3_1 (⟨(rd_T37 l0 x4_1).f0, (rd_T37 l0 x4_1).f1, (rd_T37 l0 x4_1).f2, (rd_T37 l0 x4_1).f3, (rd_T37 l0 x4_1).f4, (rd_T37 l0 x4_1).f5, (rd_T37 l0 x4_1).f6, (rd_T37 l0 x4_1).f7⟩ : S37) [.int .i64 ((rd_T37 l0 x4_1).f0), .int .i64 ((rd_T37 l0 x4_1).f1), .int .i64 ((rd_T37 l0 x4_1).f2), .int .i64 ((rd_T37 l0 x4_1).f3), .int .i64 ((rd_T37 l0 x4_1).f4), .string ((rd_T37 l0 x4_1).f5), .string ((rd_T37 l0 x4_1).f6), .slice A143_7 ((rd_T37 l0 x4_1).f7).length c143_7] (fun k_ => (P0_ k_ ∨ w.heap.size ≤ k_) ∧ k_ ≠ gb144) (fun k_ => ((fun k_ => (P0_ k_ ∨ w.heap.size ≤ k_) ∧ k_ ≠ gb144)) k_ ∧ some k_ ≠ (u3 : Value).ownBlock) rfl rfl ?aP (fun _ hk => hk) ?aF ?aO ?aB ?aS ?aL ?_; (case aP => exact (k37_mkF _ _ (⟨(rd_T37 l0 x4_1).f0, (rd_T37 l0 x4_1).f1, (rd_T37 l0 x4_1).f2, (rd_T37 l0 x4_1).f3, (rd_T37 l0 x4_1).f4, (rd_T37 l0 x4_1).f5, (rd_T37 l0 x4_1).f6, (rd_T37 l0 x4_1).f7⟩ : S37) (Kd.V_reads' (Kd.V_mono (ok' := (fun k_ => ((fun k_ => (P0_ k_ ∨ w.heap.size ≤ k_) ∧ k_ ≠ gb144)) k_ ∧ some k_ ≠ (u3 : Value).ownBlock)) (HL143_7.out) (fun k_ hk => ⟨⟨hk.1, hk.2.2⟩, hk.2.1⟩))).2.1 (Kd.V_F (Kd.V_mono (ok' := (fun k_ => ((fun k_ => (P0_ k_ ∨ w.heap.size ≤ k_) ∧ k_ ≠ gb144)) k_ ∧ some k_ ≠ (u3 : Value).ownBlock)) (HL143_7.out) (fun k_ hk => ⟨⟨hk.1, hk.2.2⟩, hk.2.1⟩))))); (case aB => exact (by repeat (first | (with_reducible first | exact HB.out | apply below_alloc | apply pw_below_drewN | apply below_drew1 | refine below_set ?_ GE144.out) | exact HB.out))); (case aF => exact (fun k_ hk => ⟨(.inr (Nat.le_trans (below_size (by repeat (first | (with_reducible first | exact HB.out | apply below_alloc | apply pw_below_drewN | apply below_drew1 | refine below_set ?_ GE144.out) | exact HB.out))) hk)), Kd.freshB (g := gb144) (o := .cells #[.int .i64 ((rd_T37 l0 x4_1).f0), .int .i64 ((rd_T37 l0 x4_1).f1), .int .i64 ((rd_T37 l0 x4_1).f2), .int .i64 ((rd_T37 l0 x4_1).f3), .int .i64 ((rd_T37 l0 x4_1).f4), .string ((rd_T37 l0 x4_1).f5), .string ((rd_T37 l0 x4_1).f6), .slice A143_7 ((rd_T37 l0 x4_1).f7).length c143_7] 37 (0, 0)) (by (with_reducible repeat (first | refine blk_drewN ?_ _ | refine blk_drew ?_ | refine blk_alloc ?_ _)); exact BK144.out) k_ hk⟩)); (case aO => exact (by (with_reducible repeat (first | apply Kd.N_alloc | apply Kd.N_drewN | apply Kd.N_drew)); exact HO_3.out)); (case aS => exact (below_size (by repeat (first | (with_reducible first | exact HB.out | apply below_alloc | apply pw_below_drewN | apply below_drew1 | refine below_set ?_ GE144.out) | exact HB.out)))); (case aL => have := LMc20.out; omega); intro v154 w25 ho hb hg hat; rw [← Ny153.out] at ho; have n0_ := Aside0.mk (Kd.V_afterv (ok := (fun k_ => (P0_ k_ ∨ w.heap.size ≤ k_) ∧ k_ ≠ gb144)) (by (with_reducible repeat (first | apply Kd.V_alloc | apply Kd.V_drewN | apply Kd.V_drew)); exact Kd.V_mono HO_0.out (fun _ hk => ⟨⟨hk.1, hk.2.2⟩, hk.2.1⟩)) hg hat); have n1_ := Aside0.mk (Kd.V_afterv (ok := (fun k_ => (P0_ k_ ∨ w.heap.size ≤ k_) ∧ k_ ≠ gb144)) (by (with_reducible repeat (first | apply Kd.V_alloc | apply Kd.V_drewN | apply Kd.V_drew)); exact Kd.V_mono HL143_7.out (fun _ hk => ⟨⟨hk.1, hk.2.2⟩, hk.2.1⟩)) hg hat); have n2_ := Aside0.mk (blk_grown (g := gb144) (o := .cells #[.int .i64 ((rd_T37 l0 x4_1).f0), .int .i64 ((rd_T37 l0 x4_1).f1), .int .i64 ((rd_T37 l0 x4_1).f2), .int .i64 ((rd_T37 l0 x4_1).f3), .int .i64 ((rd_T37 l0 x4_1).f4), .string ((rd_T37 l0 x4_1).f5), .string ((rd_T37 l0 x4_1).f6), .slice A143_7 ((rd_T37 l0 x4_1).f7).length c143_7] 37 (0, 0)) (by (with_reducible repeat (first | refine blk_drewN ?_ _ | refine blk_drew ?_ | refine blk_alloc ?_ _)); exact BK144.out) hg (Kd.N_away HO_3.out (fun _ hk => hk.2))); have n3_ := Aside0.mk (hb); have n4_ := Aside0.mk (ho); clear HO_0; clear HL143_7; clear BK144; clear HB; clear HO_3; have HO_0 := n0_; have HL143_7 := n1_; have BK144 := n2_; have HB := n3_; have HO155 := n4_; clear n0_ n1_ n2_ n3_ n4_; clear ho hb hg hat))
                    go_roundg kj3
                    case measure => have := HK1.out; have := HJ3.out; omega
                    case rel => exact ⟨(y153), (wrap64 (x4_1 + 1)), (by first | rfl | (simp; done) | (simp [*]; done)), H', ⟨by have := HK1.out; have := HJ3.out; omega⟩, ⟨by (with_reducible repeat (first | apply Kd.V_alloc | apply Kd.V_drewN | apply Kd.V_drew)); exact Kd.V_mono HO_0.out (fun _ hk => ⟨hk.1.1, hk.2⟩)⟩, ⟨by (with_reducible repeat (first | apply Kd.N_alloc | apply Kd.N_drewN | apply Kd.N_drew)); exact Kd.N_mono HO155.out (fun _ hk => hk.1)⟩, ⟨by repeat (first | (with_reducible first | exact HB.out | apply below_alloc | apply pw_below_drewN | apply below_drew1 | refine below_set ?_ GE144.out) | exact HB.out)⟩⟩
                  · rw [if_neg c20] at H
                    exact absurd H (by simp)
              · rw [if_neg c8] at H
                exact absurd H (by simp)
            · rw [if_neg c7] at H
              exact absurd H (by simp)
          · replace c6 := Bool.eq_false_iff.mpr c6
            subst c6
            have H1 : (some x3_1) = some r := by rw [if_neg (show ¬ (false = true) by decide)] at H; exact H
            clear H
            have H := H1
            clear H1
            obtain rfl := Option.some.inj H
            go_wp2
            go_ret
            exact ⟨_, by first | rfl | (simp [errW_none, errW_some] <;> rfl) | (simp [*, errW_none, errW_some] <;> rfl), by (with_reducible repeat (first | apply Kd.N_alloc | apply Kd.N_drewN | apply Kd.N_drew)); exact HO_3.out, by repeat (first | (with_reducible first | exact HB.out | apply below_alloc | apply pw_below_drewN | apply below_drew1) | exact HB.out)⟩

-- NOT PRINTED: function 6 (desk_Print)

/-! ### cambiumref26_plain: function 31 -/
def cambiumref26_plain.f (a0 : Int) : Option (Bool) := if a0 ≥ 97 then (if a0 ≤ 122 then (some true) else (if a0 ≥ 65 then (if a0 ≤ 90 then (some true) else (if a0 ≥ 48 then (if a0 ≤ 57 then (some true) else (if a0 = 47 then (some true) else (if a0 = 46 then (some true) else (if a0 = 45 then (some true) else (some (a0 == 95)))))) else (if a0 = 47 then (some true) else (if a0 = 46 then (some true) else (if a0 = 45 then (some true) else (some (a0 == 95))))))) else (if a0 ≥ 48 then (if a0 ≤ 57 then (some true) else (if a0 = 47 then (some true) else (if a0 = 46 then (some true) else (if a0 = 45 then (some true) else (some (a0 == 95)))))) else (if a0 = 47 then (some true) else (if a0 = 46 then (some true) else (if a0 = 45 then (some true) else (some (a0 == 95)))))))) else (if a0 ≥ 65 then (if a0 ≤ 90 then (some true) else (if a0 ≥ 48 then (if a0 ≤ 57 then (some true) else (if a0 = 47 then (some true) else (if a0 = 46 then (some true) else (if a0 = 45 then (some true) else (some (a0 == 95)))))) else (if a0 = 47 then (some true) else (if a0 = 46 then (some true) else (if a0 = 45 then (some true) else (some (a0 == 95))))))) else (if a0 ≥ 48 then (if a0 ≤ 57 then (some true) else (if a0 = 47 then (some true) else (if a0 = 46 then (some true) else (if a0 = 45 then (some true) else (some (a0 == 95)))))) else (if a0 = 47 then (some true) else (if a0 = 46 then (some true) else (if a0 = 45 then (some true) else (some (a0 == 95)))))))
set_option maxHeartbeats 8000000 in
set_option maxRecDepth 100000 in
theorem cambiumref26_plain.calls (a0 : Int) (r : Bool) (w : World) (h : cambiumref26_plain.f a0 = some r) :
    Calls Tryd.prog 31 #[.int .u8 a0] w fun e w' => e = .returned (.bool r) ∧ Drawn0 w w' := by
  have H : (if a0 ≥ 97 then (if a0 ≤ 122 then (some true) else (if a0 ≥ 65 then (if a0 ≤ 90 then (some true) else (if a0 ≥ 48 then (if a0 ≤ 57 then (some true) else (if a0 = 47 then (some true) else (if a0 = 46 then (some true) else (if a0 = 45 then (some true) else (some (a0 == 95)))))) else (if a0 = 47 then (some true) else (if a0 = 46 then (some true) else (if a0 = 45 then (some true) else (some (a0 == 95))))))) else (if a0 ≥ 48 then (if a0 ≤ 57 then (some true) else (if a0 = 47 then (some true) else (if a0 = 46 then (some true) else (if a0 = 45 then (some true) else (some (a0 == 95)))))) else (if a0 = 47 then (some true) else (if a0 = 46 then (some true) else (if a0 = 45 then (some true) else (some (a0 == 95)))))))) else (if a0 ≥ 65 then (if a0 ≤ 90 then (some true) else (if a0 ≥ 48 then (if a0 ≤ 57 then (some true) else (if a0 = 47 then (some true) else (if a0 = 46 then (some true) else (if a0 = 45 then (some true) else (some (a0 == 95)))))) else (if a0 = 47 then (some true) else (if a0 = 46 then (some true) else (if a0 = 45 then (some true) else (some (a0 == 95))))))) else (if a0 ≥ 48 then (if a0 ≤ 57 then (some true) else (if a0 = 47 then (some true) else (if a0 = 46 then (some true) else (if a0 = 45 then (some true) else (some (a0 == 95)))))) else (if a0 = 47 then (some true) else (if a0 = 46 then (some true) else (if a0 = 45 then (some true) else (some (a0 == 95)))))))) = some r := h
  clear h
  by_cases c2 : a0 ≥ 97
  · rw [if_pos c2] at H
    have c2b0 : decide (97 ≤ a0) = true := decide_eq_true c2
    clear c2
    by_cases c3 : a0 ≤ 122
    · rw [if_pos c3] at H
      have c3b0 : decide (a0 ≤ 122) = true := decide_eq_true c3
      clear c3
      obtain rfl := Option.some.inj H
      go_enter Tryd.func31, Tryd.ntmps31
      go_wp2
      go_ret
      exact ⟨by first | rfl | (simp; done) | (simp [*]; done), by repeat (first | exact Drawn0.refl _ | apply Drawn0.step)⟩
    · rw [if_neg c3] at H
      have c3b0 : decide (a0 ≤ 122) = false := decide_eq_false c3
      clear c3
      by_cases c4 : a0 ≥ 65
      · rw [if_pos c4] at H
        have c4b0 : decide (65 ≤ a0) = true := decide_eq_true c4
        clear c4
        by_cases c5 : a0 ≤ 90
        · rw [if_pos c5] at H
          have c5b0 : decide (a0 ≤ 90) = true := decide_eq_true c5
          clear c5
          obtain rfl := Option.some.inj H
          go_enter Tryd.func31, Tryd.ntmps31
          go_wp2
          go_ret
          exact ⟨by first | rfl | (simp; done) | (simp [*]; done), by repeat (first | exact Drawn0.refl _ | apply Drawn0.step)⟩
        · rw [if_neg c5] at H
          have c5b0 : decide (a0 ≤ 90) = false := decide_eq_false c5
          clear c5
          by_cases c6 : a0 ≥ 48
          · rw [if_pos c6] at H
            have c6b0 : decide (48 ≤ a0) = true := decide_eq_true c6
            clear c6
            by_cases c7 : a0 ≤ 57
            · rw [if_pos c7] at H
              have c7b0 : decide (a0 ≤ 57) = true := decide_eq_true c7
              clear c7
              obtain rfl := Option.some.inj H
              go_enter Tryd.func31, Tryd.ntmps31
              go_wp2
              go_ret
              exact ⟨by first | rfl | (simp; done) | (simp [*]; done), by repeat (first | exact Drawn0.refl _ | apply Drawn0.step)⟩
            · rw [if_neg c7] at H
              have c7b0 : decide (a0 ≤ 57) = false := decide_eq_false c7
              clear c7
              by_cases c8 : a0 = 47
              · rw [if_pos c8] at H
                have c8b0 : (a0 == 47) = true := beq_iff_eq.mpr c8
                have c8b1 : (a0 != 47) = false := bne_eq_false_iff_eq.mpr c8
                clear c8
                obtain rfl := Option.some.inj H
                go_enter Tryd.func31, Tryd.ntmps31
                go_wp2
                go_ret
                exact ⟨by first | rfl | (simp; done) | (simp [*]; done), by repeat (first | exact Drawn0.refl _ | apply Drawn0.step)⟩
              · rw [if_neg c8] at H
                have c8b0 : (a0 == 47) = false := beq_eq_false_iff_ne.mpr c8
                have c8b1 : (a0 != 47) = true := bne_iff_ne.mpr c8
                by_cases c9 : a0 = 46
                · rw [if_pos c9] at H
                  have c9b0 : (a0 == 46) = true := beq_iff_eq.mpr c9
                  have c9b1 : (a0 != 46) = false := bne_eq_false_iff_eq.mpr c9
                  clear c9
                  obtain rfl := Option.some.inj H
                  go_enter Tryd.func31, Tryd.ntmps31
                  go_wp2
                  go_ret
                  exact ⟨by first | rfl | (simp; done) | (simp [*]; done), by repeat (first | exact Drawn0.refl _ | apply Drawn0.step)⟩
                · rw [if_neg c9] at H
                  have c9b0 : (a0 == 46) = false := beq_eq_false_iff_ne.mpr c9
                  have c9b1 : (a0 != 46) = true := bne_iff_ne.mpr c9
                  by_cases c10 : a0 = 45
                  · rw [if_pos c10] at H
                    have c10b0 : (a0 == 45) = true := beq_iff_eq.mpr c10
                    have c10b1 : (a0 != 45) = false := bne_eq_false_iff_eq.mpr c10
                    clear c10
                    obtain rfl := Option.some.inj H
                    go_enter Tryd.func31, Tryd.ntmps31
                    go_wp2
                    go_ret
                    exact ⟨by first | rfl | (simp; done) | (simp [*]; done), by repeat (first | exact Drawn0.refl _ | apply Drawn0.step)⟩
                  · rw [if_neg c10] at H
                    have c10b0 : (a0 == 45) = false := beq_eq_false_iff_ne.mpr c10
                    have c10b1 : (a0 != 45) = true := bne_iff_ne.mpr c10
                    obtain rfl := Option.some.inj H
                    go_enter Tryd.func31, Tryd.ntmps31
                    go_wp2
                    go_ret
                    exact ⟨by first | rfl | (simp; done) | (simp [*]; done), by repeat (first | exact Drawn0.refl _ | apply Drawn0.step)⟩
          · rw [if_neg c6] at H
            have c6b0 : decide (48 ≤ a0) = false := decide_eq_false c6
            clear c6
            by_cases c11 : a0 = 47
            · rw [if_pos c11] at H
              have c11b0 : (a0 == 47) = true := beq_iff_eq.mpr c11
              have c11b1 : (a0 != 47) = false := bne_eq_false_iff_eq.mpr c11
              clear c11
              obtain rfl := Option.some.inj H
              go_enter Tryd.func31, Tryd.ntmps31
              go_wp2
              go_ret
              exact ⟨by first | rfl | (simp; done) | (simp [*]; done), by repeat (first | exact Drawn0.refl _ | apply Drawn0.step)⟩
            · rw [if_neg c11] at H
              have c11b0 : (a0 == 47) = false := beq_eq_false_iff_ne.mpr c11
              have c11b1 : (a0 != 47) = true := bne_iff_ne.mpr c11
              by_cases c12 : a0 = 46
              · rw [if_pos c12] at H
                have c12b0 : (a0 == 46) = true := beq_iff_eq.mpr c12
                have c12b1 : (a0 != 46) = false := bne_eq_false_iff_eq.mpr c12
                clear c12
                obtain rfl := Option.some.inj H
                go_enter Tryd.func31, Tryd.ntmps31
                go_wp2
                go_ret
                exact ⟨by first | rfl | (simp; done) | (simp [*]; done), by repeat (first | exact Drawn0.refl _ | apply Drawn0.step)⟩
              · rw [if_neg c12] at H
                have c12b0 : (a0 == 46) = false := beq_eq_false_iff_ne.mpr c12
                have c12b1 : (a0 != 46) = true := bne_iff_ne.mpr c12
                by_cases c13 : a0 = 45
                · rw [if_pos c13] at H
                  have c13b0 : (a0 == 45) = true := beq_iff_eq.mpr c13
                  have c13b1 : (a0 != 45) = false := bne_eq_false_iff_eq.mpr c13
                  clear c13
                  obtain rfl := Option.some.inj H
                  go_enter Tryd.func31, Tryd.ntmps31
                  go_wp2
                  go_ret
                  exact ⟨by first | rfl | (simp; done) | (simp [*]; done), by repeat (first | exact Drawn0.refl _ | apply Drawn0.step)⟩
                · rw [if_neg c13] at H
                  have c13b0 : (a0 == 45) = false := beq_eq_false_iff_ne.mpr c13
                  have c13b1 : (a0 != 45) = true := bne_iff_ne.mpr c13
                  obtain rfl := Option.some.inj H
                  go_enter Tryd.func31, Tryd.ntmps31
                  go_wp2
                  go_ret
                  exact ⟨by first | rfl | (simp; done) | (simp [*]; done), by repeat (first | exact Drawn0.refl _ | apply Drawn0.step)⟩
      · rw [if_neg c4] at H
        have c4b0 : decide (65 ≤ a0) = false := decide_eq_false c4
        clear c4
        by_cases c14 : a0 ≥ 48
        · rw [if_pos c14] at H
          have c14b0 : decide (48 ≤ a0) = true := decide_eq_true c14
          clear c14
          by_cases c15 : a0 ≤ 57
          · rw [if_pos c15] at H
            have c15b0 : decide (a0 ≤ 57) = true := decide_eq_true c15
            clear c15
            obtain rfl := Option.some.inj H
            go_enter Tryd.func31, Tryd.ntmps31
            go_wp2
            go_ret
            exact ⟨by first | rfl | (simp; done) | (simp [*]; done), by repeat (first | exact Drawn0.refl _ | apply Drawn0.step)⟩
          · rw [if_neg c15] at H
            have c15b0 : decide (a0 ≤ 57) = false := decide_eq_false c15
            clear c15
            by_cases c16 : a0 = 47
            · rw [if_pos c16] at H
              have c16b0 : (a0 == 47) = true := beq_iff_eq.mpr c16
              have c16b1 : (a0 != 47) = false := bne_eq_false_iff_eq.mpr c16
              clear c16
              obtain rfl := Option.some.inj H
              go_enter Tryd.func31, Tryd.ntmps31
              go_wp2
              go_ret
              exact ⟨by first | rfl | (simp; done) | (simp [*]; done), by repeat (first | exact Drawn0.refl _ | apply Drawn0.step)⟩
            · rw [if_neg c16] at H
              have c16b0 : (a0 == 47) = false := beq_eq_false_iff_ne.mpr c16
              have c16b1 : (a0 != 47) = true := bne_iff_ne.mpr c16
              by_cases c17 : a0 = 46
              · rw [if_pos c17] at H
                have c17b0 : (a0 == 46) = true := beq_iff_eq.mpr c17
                have c17b1 : (a0 != 46) = false := bne_eq_false_iff_eq.mpr c17
                clear c17
                obtain rfl := Option.some.inj H
                go_enter Tryd.func31, Tryd.ntmps31
                go_wp2
                go_ret
                exact ⟨by first | rfl | (simp; done) | (simp [*]; done), by repeat (first | exact Drawn0.refl _ | apply Drawn0.step)⟩
              · rw [if_neg c17] at H
                have c17b0 : (a0 == 46) = false := beq_eq_false_iff_ne.mpr c17
                have c17b1 : (a0 != 46) = true := bne_iff_ne.mpr c17
                by_cases c18 : a0 = 45
                · rw [if_pos c18] at H
                  have c18b0 : (a0 == 45) = true := beq_iff_eq.mpr c18
                  have c18b1 : (a0 != 45) = false := bne_eq_false_iff_eq.mpr c18
                  clear c18
                  obtain rfl := Option.some.inj H
                  go_enter Tryd.func31, Tryd.ntmps31
                  go_wp2
                  go_ret
                  exact ⟨by first | rfl | (simp; done) | (simp [*]; done), by repeat (first | exact Drawn0.refl _ | apply Drawn0.step)⟩
                · rw [if_neg c18] at H
                  have c18b0 : (a0 == 45) = false := beq_eq_false_iff_ne.mpr c18
                  have c18b1 : (a0 != 45) = true := bne_iff_ne.mpr c18
                  obtain rfl := Option.some.inj H
                  go_enter Tryd.func31, Tryd.ntmps31
                  go_wp2
                  go_ret
                  exact ⟨by first | rfl | (simp; done) | (simp [*]; done), by repeat (first | exact Drawn0.refl _ | apply Drawn0.step)⟩
        · rw [if_neg c14] at H
          have c14b0 : decide (48 ≤ a0) = false := decide_eq_false c14
          clear c14
          by_cases c19 : a0 = 47
          · rw [if_pos c19] at H
            have c19b0 : (a0 == 47) = true := beq_iff_eq.mpr c19
            have c19b1 : (a0 != 47) = false := bne_eq_false_iff_eq.mpr c19
            clear c19
            obtain rfl := Option.some.inj H
            go_enter Tryd.func31, Tryd.ntmps31
            go_wp2
            go_ret
            exact ⟨by first | rfl | (simp; done) | (simp [*]; done), by repeat (first | exact Drawn0.refl _ | apply Drawn0.step)⟩
          · rw [if_neg c19] at H
            have c19b0 : (a0 == 47) = false := beq_eq_false_iff_ne.mpr c19
            have c19b1 : (a0 != 47) = true := bne_iff_ne.mpr c19
            by_cases c20 : a0 = 46
            · rw [if_pos c20] at H
              have c20b0 : (a0 == 46) = true := beq_iff_eq.mpr c20
              have c20b1 : (a0 != 46) = false := bne_eq_false_iff_eq.mpr c20
              clear c20
              obtain rfl := Option.some.inj H
              go_enter Tryd.func31, Tryd.ntmps31
              go_wp2
              go_ret
              exact ⟨by first | rfl | (simp; done) | (simp [*]; done), by repeat (first | exact Drawn0.refl _ | apply Drawn0.step)⟩
            · rw [if_neg c20] at H
              have c20b0 : (a0 == 46) = false := beq_eq_false_iff_ne.mpr c20
              have c20b1 : (a0 != 46) = true := bne_iff_ne.mpr c20
              by_cases c21 : a0 = 45
              · rw [if_pos c21] at H
                have c21b0 : (a0 == 45) = true := beq_iff_eq.mpr c21
                have c21b1 : (a0 != 45) = false := bne_eq_false_iff_eq.mpr c21
                clear c21
                obtain rfl := Option.some.inj H
                go_enter Tryd.func31, Tryd.ntmps31
                go_wp2
                go_ret
                exact ⟨by first | rfl | (simp; done) | (simp [*]; done), by repeat (first | exact Drawn0.refl _ | apply Drawn0.step)⟩
              · rw [if_neg c21] at H
                have c21b0 : (a0 == 45) = false := beq_eq_false_iff_ne.mpr c21
                have c21b1 : (a0 != 45) = true := bne_iff_ne.mpr c21
                obtain rfl := Option.some.inj H
                go_enter Tryd.func31, Tryd.ntmps31
                go_wp2
                go_ret
                exact ⟨by first | rfl | (simp; done) | (simp [*]; done), by repeat (first | exact Drawn0.refl _ | apply Drawn0.step)⟩
  · rw [if_neg c2] at H
    have c2b0 : decide (97 ≤ a0) = false := decide_eq_false c2
    clear c2
    by_cases c22 : a0 ≥ 65
    · rw [if_pos c22] at H
      have c22b0 : decide (65 ≤ a0) = true := decide_eq_true c22
      clear c22
      by_cases c23 : a0 ≤ 90
      · rw [if_pos c23] at H
        have c23b0 : decide (a0 ≤ 90) = true := decide_eq_true c23
        clear c23
        obtain rfl := Option.some.inj H
        go_enter Tryd.func31, Tryd.ntmps31
        go_wp2
        go_ret
        exact ⟨by first | rfl | (simp; done) | (simp [*]; done), by repeat (first | exact Drawn0.refl _ | apply Drawn0.step)⟩
      · rw [if_neg c23] at H
        have c23b0 : decide (a0 ≤ 90) = false := decide_eq_false c23
        clear c23
        by_cases c24 : a0 ≥ 48
        · rw [if_pos c24] at H
          have c24b0 : decide (48 ≤ a0) = true := decide_eq_true c24
          clear c24
          by_cases c25 : a0 ≤ 57
          · rw [if_pos c25] at H
            have c25b0 : decide (a0 ≤ 57) = true := decide_eq_true c25
            clear c25
            obtain rfl := Option.some.inj H
            go_enter Tryd.func31, Tryd.ntmps31
            go_wp2
            go_ret
            exact ⟨by first | rfl | (simp; done) | (simp [*]; done), by repeat (first | exact Drawn0.refl _ | apply Drawn0.step)⟩
          · rw [if_neg c25] at H
            have c25b0 : decide (a0 ≤ 57) = false := decide_eq_false c25
            clear c25
            by_cases c26 : a0 = 47
            · rw [if_pos c26] at H
              have c26b0 : (a0 == 47) = true := beq_iff_eq.mpr c26
              have c26b1 : (a0 != 47) = false := bne_eq_false_iff_eq.mpr c26
              clear c26
              obtain rfl := Option.some.inj H
              go_enter Tryd.func31, Tryd.ntmps31
              go_wp2
              go_ret
              exact ⟨by first | rfl | (simp; done) | (simp [*]; done), by repeat (first | exact Drawn0.refl _ | apply Drawn0.step)⟩
            · rw [if_neg c26] at H
              have c26b0 : (a0 == 47) = false := beq_eq_false_iff_ne.mpr c26
              have c26b1 : (a0 != 47) = true := bne_iff_ne.mpr c26
              by_cases c27 : a0 = 46
              · rw [if_pos c27] at H
                have c27b0 : (a0 == 46) = true := beq_iff_eq.mpr c27
                have c27b1 : (a0 != 46) = false := bne_eq_false_iff_eq.mpr c27
                clear c27
                obtain rfl := Option.some.inj H
                go_enter Tryd.func31, Tryd.ntmps31
                go_wp2
                go_ret
                exact ⟨by first | rfl | (simp; done) | (simp [*]; done), by repeat (first | exact Drawn0.refl _ | apply Drawn0.step)⟩
              · rw [if_neg c27] at H
                have c27b0 : (a0 == 46) = false := beq_eq_false_iff_ne.mpr c27
                have c27b1 : (a0 != 46) = true := bne_iff_ne.mpr c27
                by_cases c28 : a0 = 45
                · rw [if_pos c28] at H
                  have c28b0 : (a0 == 45) = true := beq_iff_eq.mpr c28
                  have c28b1 : (a0 != 45) = false := bne_eq_false_iff_eq.mpr c28
                  clear c28
                  obtain rfl := Option.some.inj H
                  go_enter Tryd.func31, Tryd.ntmps31
                  go_wp2
                  go_ret
                  exact ⟨by first | rfl | (simp; done) | (simp [*]; done), by repeat (first | exact Drawn0.refl _ | apply Drawn0.step)⟩
                · rw [if_neg c28] at H
                  have c28b0 : (a0 == 45) = false := beq_eq_false_iff_ne.mpr c28
                  have c28b1 : (a0 != 45) = true := bne_iff_ne.mpr c28
                  obtain rfl := Option.some.inj H
                  go_enter Tryd.func31, Tryd.ntmps31
                  go_wp2
                  go_ret
                  exact ⟨by first | rfl | (simp; done) | (simp [*]; done), by repeat (first | exact Drawn0.refl _ | apply Drawn0.step)⟩
        · rw [if_neg c24] at H
          have c24b0 : decide (48 ≤ a0) = false := decide_eq_false c24
          clear c24
          by_cases c29 : a0 = 47
          · rw [if_pos c29] at H
            have c29b0 : (a0 == 47) = true := beq_iff_eq.mpr c29
            have c29b1 : (a0 != 47) = false := bne_eq_false_iff_eq.mpr c29
            clear c29
            obtain rfl := Option.some.inj H
            go_enter Tryd.func31, Tryd.ntmps31
            go_wp2
            go_ret
            exact ⟨by first | rfl | (simp; done) | (simp [*]; done), by repeat (first | exact Drawn0.refl _ | apply Drawn0.step)⟩
          · rw [if_neg c29] at H
            have c29b0 : (a0 == 47) = false := beq_eq_false_iff_ne.mpr c29
            have c29b1 : (a0 != 47) = true := bne_iff_ne.mpr c29
            by_cases c30 : a0 = 46
            · rw [if_pos c30] at H
              have c30b0 : (a0 == 46) = true := beq_iff_eq.mpr c30
              have c30b1 : (a0 != 46) = false := bne_eq_false_iff_eq.mpr c30
              clear c30
              obtain rfl := Option.some.inj H
              go_enter Tryd.func31, Tryd.ntmps31
              go_wp2
              go_ret
              exact ⟨by first | rfl | (simp; done) | (simp [*]; done), by repeat (first | exact Drawn0.refl _ | apply Drawn0.step)⟩
            · rw [if_neg c30] at H
              have c30b0 : (a0 == 46) = false := beq_eq_false_iff_ne.mpr c30
              have c30b1 : (a0 != 46) = true := bne_iff_ne.mpr c30
              by_cases c31 : a0 = 45
              · rw [if_pos c31] at H
                have c31b0 : (a0 == 45) = true := beq_iff_eq.mpr c31
                have c31b1 : (a0 != 45) = false := bne_eq_false_iff_eq.mpr c31
                clear c31
                obtain rfl := Option.some.inj H
                go_enter Tryd.func31, Tryd.ntmps31
                go_wp2
                go_ret
                exact ⟨by first | rfl | (simp; done) | (simp [*]; done), by repeat (first | exact Drawn0.refl _ | apply Drawn0.step)⟩
              · rw [if_neg c31] at H
                have c31b0 : (a0 == 45) = false := beq_eq_false_iff_ne.mpr c31
                have c31b1 : (a0 != 45) = true := bne_iff_ne.mpr c31
                obtain rfl := Option.some.inj H
                go_enter Tryd.func31, Tryd.ntmps31
                go_wp2
                go_ret
                exact ⟨by first | rfl | (simp; done) | (simp [*]; done), by repeat (first | exact Drawn0.refl _ | apply Drawn0.step)⟩
    · rw [if_neg c22] at H
      have c22b0 : decide (65 ≤ a0) = false := decide_eq_false c22
      clear c22
      by_cases c32 : a0 ≥ 48
      · rw [if_pos c32] at H
        have c32b0 : decide (48 ≤ a0) = true := decide_eq_true c32
        clear c32
        by_cases c33 : a0 ≤ 57
        · rw [if_pos c33] at H
          have c33b0 : decide (a0 ≤ 57) = true := decide_eq_true c33
          clear c33
          obtain rfl := Option.some.inj H
          go_enter Tryd.func31, Tryd.ntmps31
          go_wp2
          go_ret
          exact ⟨by first | rfl | (simp; done) | (simp [*]; done), by repeat (first | exact Drawn0.refl _ | apply Drawn0.step)⟩
        · rw [if_neg c33] at H
          have c33b0 : decide (a0 ≤ 57) = false := decide_eq_false c33
          clear c33
          by_cases c34 : a0 = 47
          · rw [if_pos c34] at H
            have c34b0 : (a0 == 47) = true := beq_iff_eq.mpr c34
            have c34b1 : (a0 != 47) = false := bne_eq_false_iff_eq.mpr c34
            clear c34
            obtain rfl := Option.some.inj H
            go_enter Tryd.func31, Tryd.ntmps31
            go_wp2
            go_ret
            exact ⟨by first | rfl | (simp; done) | (simp [*]; done), by repeat (first | exact Drawn0.refl _ | apply Drawn0.step)⟩
          · rw [if_neg c34] at H
            have c34b0 : (a0 == 47) = false := beq_eq_false_iff_ne.mpr c34
            have c34b1 : (a0 != 47) = true := bne_iff_ne.mpr c34
            by_cases c35 : a0 = 46
            · rw [if_pos c35] at H
              have c35b0 : (a0 == 46) = true := beq_iff_eq.mpr c35
              have c35b1 : (a0 != 46) = false := bne_eq_false_iff_eq.mpr c35
              clear c35
              obtain rfl := Option.some.inj H
              go_enter Tryd.func31, Tryd.ntmps31
              go_wp2
              go_ret
              exact ⟨by first | rfl | (simp; done) | (simp [*]; done), by repeat (first | exact Drawn0.refl _ | apply Drawn0.step)⟩
            · rw [if_neg c35] at H
              have c35b0 : (a0 == 46) = false := beq_eq_false_iff_ne.mpr c35
              have c35b1 : (a0 != 46) = true := bne_iff_ne.mpr c35
              by_cases c36 : a0 = 45
              · rw [if_pos c36] at H
                have c36b0 : (a0 == 45) = true := beq_iff_eq.mpr c36
                have c36b1 : (a0 != 45) = false := bne_eq_false_iff_eq.mpr c36
                clear c36
                obtain rfl := Option.some.inj H
                go_enter Tryd.func31, Tryd.ntmps31
                go_wp2
                go_ret
                exact ⟨by first | rfl | (simp; done) | (simp [*]; done), by repeat (first | exact Drawn0.refl _ | apply Drawn0.step)⟩
              · rw [if_neg c36] at H
                have c36b0 : (a0 == 45) = false := beq_eq_false_iff_ne.mpr c36
                have c36b1 : (a0 != 45) = true := bne_iff_ne.mpr c36
                obtain rfl := Option.some.inj H
                go_enter Tryd.func31, Tryd.ntmps31
                go_wp2
                go_ret
                exact ⟨by first | rfl | (simp; done) | (simp [*]; done), by repeat (first | exact Drawn0.refl _ | apply Drawn0.step)⟩
      · rw [if_neg c32] at H
        have c32b0 : decide (48 ≤ a0) = false := decide_eq_false c32
        clear c32
        by_cases c37 : a0 = 47
        · rw [if_pos c37] at H
          have c37b0 : (a0 == 47) = true := beq_iff_eq.mpr c37
          have c37b1 : (a0 != 47) = false := bne_eq_false_iff_eq.mpr c37
          clear c37
          obtain rfl := Option.some.inj H
          go_enter Tryd.func31, Tryd.ntmps31
          go_wp2
          go_ret
          exact ⟨by first | rfl | (simp; done) | (simp [*]; done), by repeat (first | exact Drawn0.refl _ | apply Drawn0.step)⟩
        · rw [if_neg c37] at H
          have c37b0 : (a0 == 47) = false := beq_eq_false_iff_ne.mpr c37
          have c37b1 : (a0 != 47) = true := bne_iff_ne.mpr c37
          by_cases c38 : a0 = 46
          · rw [if_pos c38] at H
            have c38b0 : (a0 == 46) = true := beq_iff_eq.mpr c38
            have c38b1 : (a0 != 46) = false := bne_eq_false_iff_eq.mpr c38
            clear c38
            obtain rfl := Option.some.inj H
            go_enter Tryd.func31, Tryd.ntmps31
            go_wp2
            go_ret
            exact ⟨by first | rfl | (simp; done) | (simp [*]; done), by repeat (first | exact Drawn0.refl _ | apply Drawn0.step)⟩
          · rw [if_neg c38] at H
            have c38b0 : (a0 == 46) = false := beq_eq_false_iff_ne.mpr c38
            have c38b1 : (a0 != 46) = true := bne_iff_ne.mpr c38
            by_cases c39 : a0 = 45
            · rw [if_pos c39] at H
              have c39b0 : (a0 == 45) = true := beq_iff_eq.mpr c39
              have c39b1 : (a0 != 45) = false := bne_eq_false_iff_eq.mpr c39
              clear c39
              obtain rfl := Option.some.inj H
              go_enter Tryd.func31, Tryd.ntmps31
              go_wp2
              go_ret
              exact ⟨by first | rfl | (simp; done) | (simp [*]; done), by repeat (first | exact Drawn0.refl _ | apply Drawn0.step)⟩
            · rw [if_neg c39] at H
              have c39b0 : (a0 == 45) = false := beq_eq_false_iff_ne.mpr c39
              have c39b1 : (a0 != 45) = true := bne_iff_ne.mpr c39
              obtain rfl := Option.some.inj H
              go_enter Tryd.func31, Tryd.ntmps31
              go_wp2
              go_ret
              exact ⟨by first | rfl | (simp; done) | (simp [*]; done), by repeat (first | exact Drawn0.refl _ | apply Drawn0.step)⟩

end Go.Proofs.YtnkhakomjklfmaaDoor.PDeskPrints
