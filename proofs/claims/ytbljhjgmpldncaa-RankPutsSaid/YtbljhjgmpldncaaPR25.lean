/- Contracts of the program's functions, one plain Lean function for each, written by a program of this session's over the kit's print; Lean checks every line. -/
import Derived.Test.YtbljhjgmpldncaaPR0
import Derived.Test.YtbljhjgmpldncaaPR12
import Derived.Test.YtbljhjgmpldncaaPR15
import Derived.Test.YtbljhjgmpldncaaPR17
import Derived.Test.YtbljhjgmpldncaaPR21
import Derived.Test.YtbljhjgmpldncaaPR22
import Derived.Test.YtbljhjgmpldncaaPR24
namespace Go.Proofs.Ytbljhjgmpldncaa.PR
open Go.RowKit Go.Proofs.YtbljhjgmpldncaaW.PrintWords Go.Proofs.YtbljhjgmpldncaaW.PrintLast Go.Proofs.YtbljhjgmpldncaaW.PrintMore
attribute [local go_sem] max2_int min2_int max_two min_two max_three min_three max_four min_four   -- for this text's walks alone
set_option linter.unusedVariables false
set_option linter.unusedSimpArgs false

/-! ### gangerref03_Drop: function 21 -/
def gangerref03_Drop.l0 : Nat → List (S24) → Int → List (S24) → Int → Option ((List (S24)) × Bool)
  | 0, _, _, _, _ => none
  | k + 1, x0, x1, x7, x8 => if x8 < (x0.length : Int) then (if 0 ≤ x8 then (if ((rd_T24 x0 x8).f2) = x1 then (gangerref03_Drop.l0 k x0 x1 x7 (wrap64 (x8 + 1))) else (if x7.length < 5864062014805 then (gangerref03_Drop.l0 k x0 x1 (x7 ++ [(⟨(rd_T24 x0 x8).f0, (rd_T24 x0 x8).f1, (rd_T24 x0 x8).f2⟩ : S24)]) (wrap64 (x8 + 1))) else (none))) else (none)) else (some (x7, ((x7.length : Int) != (x0.length : Int))))
def gangerref03_Drop.f (k : Nat) (l0 : List (S24)) (a1 : Int) : Option ((List (S24)) × Bool) := (gangerref03_Check.f k l0).bind fun t319 => (if t319 = 0 then (gangerref03_Drop.l0 k l0 a1 ([] : List (S24)) 0) else (some (([] : List (S24)), false)))
theorem gangerref03_Drop.mono_l : ∀ k, (∀ y0 y1 y2 y3, LeO (gangerref03_Drop.l0 k y0 y1 y2 y3) (gangerref03_Drop.l0 (k + 1) y0 y1 y2 y3))
  | 0 => fun _ _ _ _ r h => by simp [gangerref03_Drop.l0] at h
  | k + 1 => by
    have ih0 := gangerref03_Drop.mono_l k
    · intro y0 y1 y2 y3
      unfold gangerref03_Drop.l0
      repeat' first
      | (with_reducible exact ih0 _ _ _ _)
      | (with_reducible exact gangerref03_Check.mono _ _)
      | (with_reducible exact LeO.refl _)
      | (with_reducible exact LeO.none _)
      | (with_reducible refine LeO.ite ?_ ?_)
      | (with_reducible refine LeO.bind ?_ (fun _ => ?_))
      | exact ih0 _ _ _ _
      | exact gangerref03_Check.mono _ _
      | exact LeO.none _
      | refine LeO.ite ?_ ?_
      | refine LeO.bind ?_ (fun _ => ?_)
theorem gangerref03_Drop.mono : ∀ a0 a1 k, LeO (gangerref03_Drop.f k a0 a1) (gangerref03_Drop.f (k + 1) a0 a1) := by
  intro a0 a1 k
  have ih0 := gangerref03_Drop.mono_l k
  unfold gangerref03_Drop.f
  repeat' first
      | (with_reducible exact ih0 _ _ _ _)
      | (with_reducible exact gangerref03_Check.mono _ _)
      | (with_reducible exact LeO.refl _)
      | (with_reducible exact LeO.none _)
      | (with_reducible refine LeO.ite ?_ ?_)
      | (with_reducible refine LeO.bind ?_ (fun _ => ?_))
      | exact ih0 _ _ _ _
      | exact gangerref03_Check.mono _ _
      | exact LeO.none _
      | refine LeO.ite ?_ ?_
      | refine LeO.bind ?_ (fun _ => ?_)
set_option maxHeartbeats 8000000 in
set_option maxRecDepth 100000 in
theorem gangerref03_Drop.calls (k : Nat) (A0 : Option Addr) (c0 : Nat) (l0 : List (S24)) (a1 : Int) (r1 : List (S24)) (r2 : Bool) (w : World) (hr0 : Kd.C k24 w A0 l0.length l0) (hc0 : l0.length ≤ c0) (h : gangerref03_Drop.f k l0 a1 = some (r1, r2)) :
    Calls Try.prog 21 #[.slice A0 l0.length c0, .int .u32 a1] w fun e w' => ∃ v0_ : Value, e = .returned (.tuple #[v0_, .bool r2]) ∧ Kd.R k24 24 w' w.heap.size (fun _ => True) v0_ r1 ∧ Below w.heap.size w w' := by
  have hu24 := Try.underlying24
  have HR0 := Aside0.mk hr0
  have HC0 := Aside0.mk hc0
  clear hr0 hc0
  have HB := Aside0.mk (Below.refl w.heap.size w)
  have H : ((gangerref03_Check.f k l0).bind fun t319 => (if t319 = 0 then (gangerref03_Drop.l0 k l0 a1 ([] : List (S24)) 0) else (some (([] : List (S24)), false)))) = some (r1, r2) := h
  clear h
  replace H := Option.bind_eq_some_iff.mp H
  obtain ⟨t319, A30, H⟩ := H
  replace H : (if t319 = 0 then (gangerref03_Drop.l0 k l0 a1 ([] : List (S24)) 0) else (some (([] : List (S24)), false))) = some (r1, r2) := H
  have A3 := Aside0.mk A30
  clear A30
  by_cases c4 : t319 = 0
  · rw [if_pos c4] at H
    have c4b0 : (t319 == 0) = true := beq_iff_eq.mpr c4
    have c4b1 : (t319 != 0) = false := bne_eq_false_iff_eq.mpr c4
    clear c4
    have H' := Aside0.mk H
    clear H
    go_enter Try.func21, Try.ntmps21
    go_wp2_with (first | ((with_reducible refine gate_callee (f := 29) rfl ?_); refine goesL_ (some 10) rfl rfl Try.func29 (by kernel_rfl) rfl #[.slice A0 l0.length c0] rfl (by (try simp only [List.map_toArray, List.map_cons, List.map_nil]); first | done | rfl | (simp only [List.length_drop, List.length_take]; rfl)) ?_; (with_reducible refine (gangerref03_Check.calls k _ _ l0 t319 _ ?side1 ?side2 A3.out).mono ?_); (case side1 => repeat (first | exact HR0.out | (with_reducible refine Kd.C_alloc ?_ _) | (with_reducible refine Kd.C_drewN ?_ _) | (with_reducible refine Kd.C_drew ?_))); (case side2 => exact HC0.out); rintro e w5 ⟨rfl, hb⟩; refine ⟨_, rfl, ?_⟩; have n0_ := Aside0.mk (below_step (by repeat (first | (with_reducible first | exact HB.out | apply below_alloc | apply pw_below_drewN | apply below_drew1) | exact HB.out)) hb); clear HB; have HB := n0_; clear n0_; (try clear hb); (try clear hb2); (try clear hk); (try clear hi)))
    go_loopg [7, 8] k (fun kq v7 v8 w' => ∃ (x7_1 : List (S24)) (x8_1 : Int), v8 = .int .i64 x8_1 ∧ Aside0 (gangerref03_Drop.l0 kq l0 a1 x7_1 x8_1 = some (r1, r2)) ∧ Aside0 (kq ≤ k) ∧ Aside0 (Kd.R k24 24 w' w.heap.size (fun _ => True) v7 x7_1) ∧ Aside0 (Below w.heap.size w w'))
    case atStart => exact ⟨(([] : List (S24))), (0), (by first | rfl | (simp; done) | (simp [*]; done)), H', ⟨Nat.le_refl _⟩, ⟨by first | exact Kd.R_nil _ _ _ _ _ | exact Kd.N_nil _ _ _ _ _ | exact Kd.V_nil _ _ _ _ _ | exact Kd.Q_nil _ _ _ _ _ | exact Kd.S_nil _ _ _ _ _⟩, ⟨by repeat (first | (with_reducible first | exact HB.out | apply below_alloc | apply pw_below_drewN | apply below_drew1) | exact HB.out)⟩⟩
    case round =>
      clear H'
      try clear c2
      try clear p2
      try clear c4
      try clear c4b0
      try clear c4b1
      obtain ⟨x7_1, x8_1, rfl, HA, HK1, HO_7, HB⟩ := hrel
      cases gk with
      | zero => exact absurd HA.out (by simp [gangerref03_Drop.l0])
      | succ k1 =>
        have H := HA.out
        clear HA
        simp only [gangerref03_Drop.l0] at H
        by_cases c6 : x8_1 < (l0.length : Int)
        · rw [if_pos c6] at H
          have c6b0 : decide (x8_1 < (l0.length : Int)) = true := decide_eq_true c6
          clear c6
          by_cases c7 : 0 ≤ x8_1
          · rw [if_pos c7] at H
            have c7b0 : decide (0 ≤ x8_1) = true := decide_eq_true c7
            clear c7
            by_cases c8 : ((rd_T24 l0 x8_1).f2) = a1
            · rw [if_pos c8] at H
              have c8b0 : (((rd_T24 l0 x8_1).f2) == a1) = true := beq_iff_eq.mpr c8
              have c8b1 : (((rd_T24 l0 x8_1).f2) != a1) = false := bne_eq_false_iff_eq.mpr c8
              clear c8
              have H' := Aside0.mk H
              clear H
              have p320 : 0 ≤ (x8_1 : Int) := of_decide_eq_true (by first | (with_reducible assumption) | assumption)
              have q320 : x8_1 < (l0.length : Int) := of_decide_eq_true (by first | (with_reducible assumption) | assumption)
              obtain ⟨ad320, e320, hx320_0, hx320_1, hx320_2⟩ := at_T24 HR0.out x8_1 p320 q320
              cases e320
              replace hx320_0 := (HB.out.cell (World.block_lt_of_cell? w _ hx320_0)).trans hx320_0
              replace hx320_1 := (HB.out.cell (World.block_lt_of_cell? w _ hx320_1)).trans hx320_1
              replace hx320_2 := (HB.out.cell (World.block_lt_of_cell? w _ hx320_2)).trans hx320_2
              replace p320 := eq_true p320
              replace q320 := eq_true q320
              go_wp2
              go_roundg k1
              case measure => have := HK1.out; omega
              case rel => exact ⟨(x7_1), (wrap64 (x8_1 + 1)), (by first | rfl | (simp; done) | (simp [*]; done)), H', ⟨by have := HK1.out; omega⟩, ⟨by (with_reducible repeat (first | apply Kd.R_alloc | apply Kd.R_drewN | apply Kd.R_drew)); exact HO_7.out⟩, ⟨by repeat (first | (with_reducible first | exact HB.out | apply below_alloc | apply pw_below_drewN | apply below_drew1) | exact HB.out)⟩⟩
            · rw [if_neg c8] at H
              have c8b0 : (((rd_T24 l0 x8_1).f2) == a1) = false := beq_eq_false_iff_ne.mpr c8
              have c8b1 : (((rd_T24 l0 x8_1).f2) != a1) = true := bne_iff_ne.mpr c8
              by_cases c9 : x7_1.length < 5864062014805
              · rw [if_pos c9] at H
                have LMc9 := Aside0.mk c9
                clear c9
                obtain ⟨y322, hy322⟩ : ∃ y_ : List (S24), y_ = (x7_1 ++ [(⟨(rd_T24 l0 x8_1).f0, (rd_T24 l0 x8_1).f1, (rd_T24 l0 x8_1).f2⟩ : S24)]) := ⟨_, rfl⟩
                replace H : (gangerref03_Drop.l0 k1 l0 a1 y322 (wrap64 (x8_1 + 1))) = some (r1, r2) := by first | (rw [hy322]; with_reducible exact H) | (have H2_ := (Option.bind_some _ _).symm.trans H; rw [hy322]; with_reducible exact H2_) | (have H2_ := (Option.bind_some _ _).symm.trans H; with_reducible exact H2_) | with_reducible exact H | (rw [hy322]; exact H) | exact H
                have Ny322 := Aside0.mk hy322
                clear hy322
                have H' := Aside0.mk H
                clear H
                have p320 : 0 ≤ (x8_1 : Int) := of_decide_eq_true (by first | (with_reducible assumption) | assumption)
                have q320 : x8_1 < (l0.length : Int) := of_decide_eq_true (by first | (with_reducible assumption) | assumption)
                obtain ⟨ad320, e320, hx320_0, hx320_1, hx320_2⟩ := at_T24 HR0.out x8_1 p320 q320
                cases e320
                replace hx320_0 := (HB.out.cell (World.block_lt_of_cell? w _ hx320_0)).trans hx320_0
                replace hx320_1 := (HB.out.cell (World.block_lt_of_cell? w _ hx320_1)).trans hx320_1
                replace hx320_2 := (HB.out.cell (World.block_lt_of_cell? w _ hx320_2)).trans hx320_2
                replace p320 := eq_true p320
                replace q320 := eq_true q320
                have p321 : 0 ≤ (x8_1 : Int) := of_decide_eq_true (by first | (with_reducible assumption) | assumption)
                have q321 : x8_1 < (l0.length : Int) := of_decide_eq_true (by first | (with_reducible assumption) | assumption)
                obtain ⟨ad321, e321, hx321_0, hx321_1, hx321_2⟩ := at_T24 HR0.out x8_1 p321 q321
                obtain rfl : ad320 = ad321 := (by injection e321)
                replace hx321_0 := (HB.out.cell (World.block_lt_of_cell? w _ hx321_0)).trans hx321_0
                replace hx321_1 := (HB.out.cell (World.block_lt_of_cell? w _ hx321_1)).trans hx321_1
                replace hx321_2 := (HB.out.cell (World.block_lt_of_cell? w _ hx321_2)).trans hx321_2
                replace p321 := eq_true p321
                replace q321 := eq_true q321
                go_wp2_with (first | ((with_reducible refine gate_builtin (b := .append) (xs := #[.tmp 26, .tmp 31]) rfl ?_); at_builtin; refine Kd.R_append k24 (w0 := w) w.heap.size rfl (.tmp 26) (.tmp 31) 32 24 (.agg #[(.int .i64 0), (.int .i64 0), (.int .u32 0)]) 24 rfl Try.underlying32 info24 rfl (by decide) (by omega) u7 x7_1 (⟨(rd_T24 l0 x8_1).f0, (rd_T24 l0 x8_1).f1, (rd_T24 l0 x8_1).f2⟩ : S24) [.int .i64 ((rd_T24 l0 x8_1).f0), .int .i64 ((rd_T24 l0 x8_1).f1), .int .u32 ((rd_T24 l0 x8_1).f2)] (fun _ => True) (fun _ => False) rfl rfl ?aP (fun _ hk => hk.elim) ?aF ?aO ?aB ?aS ?aL ?_; (case aP => exact k24_mkM _ _ _ (⟨(rd_T24 l0 x8_1).f0, (rd_T24 l0 x8_1).f1, (rd_T24 l0 x8_1).f2⟩ : S24)); (case aB => exact (by repeat (first | (with_reducible first | exact HB.out | apply below_alloc | apply pw_below_drewN | apply below_drew1) | exact HB.out))); (case aF => exact (fun _ _ => trivial)); (case aO => exact (by (with_reducible repeat (first | apply Kd.R_alloc | apply Kd.R_drewN | apply Kd.R_drew)); exact HO_7.out)); (case aS => exact (below_size (by repeat (first | (with_reducible first | exact HB.out | apply below_alloc | apply pw_below_drewN | apply below_drew1) | exact HB.out)))); (case aL => have := LMc9.out; omega); intro v323 w10 ho hb hg hat; rw [← Ny322.out] at ho; have n0_ := Aside0.mk (hb); have n1_ := Aside0.mk (ho); clear HB; clear HO_7; have HB := n0_; have HO324 := n1_; clear n0_ n1_; clear ho hb hg hat))
                go_roundg k1
                case measure => have := HK1.out; omega
                case rel => exact ⟨(y322), (wrap64 (x8_1 + 1)), (by first | rfl | (simp; done) | (simp [*]; done)), H', ⟨by have := HK1.out; omega⟩, ⟨by (with_reducible repeat (first | apply Kd.R_alloc | apply Kd.R_drewN | apply Kd.R_drew)); exact HO324.out⟩, ⟨by repeat (first | (with_reducible first | exact HB.out | apply below_alloc | apply pw_below_drewN | apply below_drew1) | exact HB.out)⟩⟩
              · rw [if_neg c9] at H
                exact absurd H (by simp)
          · rw [if_neg c7] at H
            exact absurd H (by simp)
        · rw [if_neg c6] at H
          have c6b0 : decide (x8_1 < (l0.length : Int)) = false := decide_eq_false c6
          clear c6
          simp only [Option.some.injEq, Prod.mk.injEq] at H
          obtain ⟨rfl, rfl⟩ := H
          obtain ⟨Ao11, co11, eo11⟩ := Kd.R_slice HO_7.out
          subst eo11
          go_wp2
          go_ret2
          exact ⟨_, by first | rfl | (simp [errW_none, errW_some] <;> rfl) | (simp [*, errW_none, errW_some] <;> rfl), by (with_reducible repeat (first | apply Kd.R_alloc | apply Kd.R_drewN | apply Kd.R_drew)); exact HO_7.out, by repeat (first | (with_reducible first | exact HB.out | apply below_alloc | apply pw_below_drewN | apply below_drew1) | exact HB.out)⟩
  · rw [if_neg c4] at H
    have c4b0 : (t319 == 0) = false := beq_eq_false_iff_ne.mpr c4
    have c4b1 : (t319 != 0) = true := bne_iff_ne.mpr c4
    simp only [Option.some.injEq, Prod.mk.injEq] at H
    obtain ⟨rfl, rfl⟩ := H
    go_enter Try.func21, Try.ntmps21
    go_wp2_with (first | ((with_reducible refine gate_callee (f := 29) rfl ?_); refine goesL_ (some 10) rfl rfl Try.func29 (by kernel_rfl) rfl #[.slice A0 l0.length c0] rfl (by (try simp only [List.map_toArray, List.map_cons, List.map_nil]); first | done | rfl | (simp only [List.length_drop, List.length_take]; rfl)) ?_; (with_reducible refine (gangerref03_Check.calls k _ _ l0 t319 _ ?side1 ?side2 A3.out).mono ?_); (case side1 => repeat (first | exact HR0.out | (with_reducible refine Kd.C_alloc ?_ _) | (with_reducible refine Kd.C_drewN ?_ _) | (with_reducible refine Kd.C_drew ?_))); (case side2 => exact HC0.out); rintro e w12 ⟨rfl, hb⟩; refine ⟨_, rfl, ?_⟩; have n0_ := Aside0.mk (below_step (by repeat (first | (with_reducible first | exact HB.out | apply below_alloc | apply pw_below_drewN | apply below_drew1) | exact HB.out)) hb); clear HB; have HB := n0_; clear n0_; (try clear hb); (try clear hb2); (try clear hk); (try clear hi)))
    go_ret2
    exact ⟨_, by first | rfl | (simp [errW_none, errW_some] <;> rfl) | (simp [*, errW_none, errW_some] <;> rfl), by first | exact Kd.R_nil _ _ _ _ _ | exact Kd.N_nil _ _ _ _ _ | exact Kd.V_nil _ _ _ _ _ | exact Kd.Q_nil _ _ _ _ _ | exact Kd.S_nil _ _ _ _ _, by repeat (first | (with_reducible first | exact HB.out | apply below_alloc | apply pw_below_drewN | apply below_drew1) | exact HB.out)⟩

/-! ### gangerlaw03_RankPuts: function 5 -/
mutual
def gangerlaw03_RankPuts.j0 : Nat → List (S24) → List (S24) → List (S24) → List (S24) → Bool → Option (Bool)
  | 0, _, _, _, _, _ => none
  | k + 1, x0, x7, x8, x12, x66 => if x66 = true then (some false) else (gangerlaw03_RankPuts.l0 k x0 x7 x8 x12 0)
def gangerlaw03_RankPuts.l0 : Nat → List (S24) → List (S24) → List (S24) → List (S24) → Int → Option (Bool)
  | 0, _, _, _, _, _ => none
  | k + 1, x0, x7, x8, x12, x16 => if x16 < (x8.length : Int) then (if 0 ≤ x16 then (gangerlaw03_RankPuts.l0 k x0 x7 (x8.set (x16 : Int).toNat (⟨7, (rd_T24 x8 x16).f1, (rd_T24 x8 x16).f2⟩ : S24)) x12 (wrap64 (x16 + 1))) else (none)) else (gangerlaw03_RankPuts.l1 k x0 x7 x12 0)
def gangerlaw03_RankPuts.l1 : Nat → List (S24) → List (S24) → List (S24) → Int → Option (Bool)
  | 0, _, _, _, _ => none
  | k + 1, x0, x7, x12, x17 => if x17 < (x12.length : Int) then (if 0 ≤ x17 then (gangerlaw03_RankPuts.l1 k x0 x7 (x12.set (x17 : Int).toNat (⟨8, (rd_T24 x12 x17).f1, (rd_T24 x12 x17).f2⟩ : S24)) (wrap64 (x17 + 1))) else (none)) else ((gangerref03_Same.f k x7 x0).bind fun t351 => (if t351 = true then ((gangerlaw03_known.f k).bind fun t352 => (some t352)) else (some false)))
end
def gangerlaw03_RankPuts.f (k : Nat) (l0 : List (S24)) (a1_0 : Int) (a1_1 : Int) (a1_2 : Int) (a2 : Int) : Option (Bool) := (gangerlaw03_many.f l0 ([] : List (S24))).bind fun t326 => (if t326 = true then ((gangerlaw03_known.f k).bind fun t327 => (some t327)) else ((gangerlaw03_copied.f l0).bind fun t328 => ((rank_Put.f k t328 a1_0 a1_1 a1_2).bind fun bt331 => ((gangerref03_Put.f k l0 a1_0 a1_1 a1_2).bind fun bt335 => ((rank_Drop.f k t328 a2).bind fun bt339 => ((gangerref03_Drop.f k l0 a2).bind fun bt343 => ((gangerref03_Same.f k bt331.1 bt335.1).bind fun t347 => (if t347 = true then (if bt331.2 = bt335.2 then ((gangerref03_Same.f k bt339.1 bt343.1).bind fun t348 => (if t348 = true then (gangerlaw03_RankPuts.j0 k l0 t328 bt331.1 bt339.1 (bt339.2 != bt343.2)) else (gangerlaw03_RankPuts.j0 k l0 t328 bt331.1 bt339.1 true))) else (gangerlaw03_RankPuts.j0 k l0 t328 bt331.1 bt339.1 true)) else (gangerlaw03_RankPuts.j0 k l0 t328 bt331.1 bt339.1 true)))))))))
theorem gangerlaw03_RankPuts.mono_l : ∀ k, (∀ y0 y1 y2 y3 y4, LeO (gangerlaw03_RankPuts.j0 k y0 y1 y2 y3 y4) (gangerlaw03_RankPuts.j0 (k + 1) y0 y1 y2 y3 y4)) ∧ (∀ y0 y1 y2 y3 y4, LeO (gangerlaw03_RankPuts.l0 k y0 y1 y2 y3 y4) (gangerlaw03_RankPuts.l0 (k + 1) y0 y1 y2 y3 y4)) ∧ (∀ y0 y1 y2 y3, LeO (gangerlaw03_RankPuts.l1 k y0 y1 y2 y3) (gangerlaw03_RankPuts.l1 (k + 1) y0 y1 y2 y3))
  | 0 => ⟨fun _ _ _ _ _ r h => by simp [gangerlaw03_RankPuts.j0] at h, fun _ _ _ _ _ r h => by simp [gangerlaw03_RankPuts.l0] at h, fun _ _ _ _ r h => by simp [gangerlaw03_RankPuts.l1] at h⟩
  | k + 1 => by
    obtain ⟨ih0, ih1, ih2⟩ := gangerlaw03_RankPuts.mono_l k
    refine ⟨?_, ?_, ?_⟩
    · intro y0 y1 y2 y3 y4
      unfold gangerlaw03_RankPuts.j0
      repeat' first
      | (with_reducible exact ih0 _ _ _ _ _)
      | (with_reducible exact ih1 _ _ _ _ _)
      | (with_reducible exact ih2 _ _ _ _)
      | (with_reducible exact gangerlaw03_known.mono _)
      | (with_reducible exact gangerref03_Drop.mono _ _ _)
      | (with_reducible exact gangerref03_Put.mono _ _ _ _ _)
      | (with_reducible exact gangerref03_Same.mono _ _ _)
      | (with_reducible exact rank_Drop.mono _ _ _)
      | (with_reducible exact rank_Put.mono _ _ _ _ _)
      | (with_reducible exact LeO.refl _)
      | (with_reducible exact LeO.none _)
      | (with_reducible refine LeO.ite ?_ ?_)
      | (with_reducible refine LeO.bind ?_ (fun _ => ?_))
      | exact ih0 _ _ _ _ _
      | exact ih1 _ _ _ _ _
      | exact ih2 _ _ _ _
      | exact gangerlaw03_known.mono _
      | exact gangerref03_Drop.mono _ _ _
      | exact gangerref03_Put.mono _ _ _ _ _
      | exact gangerref03_Same.mono _ _ _
      | exact rank_Drop.mono _ _ _
      | exact rank_Put.mono _ _ _ _ _
      | exact LeO.none _
      | refine LeO.ite ?_ ?_
      | refine LeO.bind ?_ (fun _ => ?_)
    · intro y0 y1 y2 y3 y4
      unfold gangerlaw03_RankPuts.l0
      repeat' first
      | (with_reducible exact ih0 _ _ _ _ _)
      | (with_reducible exact ih1 _ _ _ _ _)
      | (with_reducible exact ih2 _ _ _ _)
      | (with_reducible exact gangerlaw03_known.mono _)
      | (with_reducible exact gangerref03_Drop.mono _ _ _)
      | (with_reducible exact gangerref03_Put.mono _ _ _ _ _)
      | (with_reducible exact gangerref03_Same.mono _ _ _)
      | (with_reducible exact rank_Drop.mono _ _ _)
      | (with_reducible exact rank_Put.mono _ _ _ _ _)
      | (with_reducible exact LeO.refl _)
      | (with_reducible exact LeO.none _)
      | (with_reducible refine LeO.ite ?_ ?_)
      | (with_reducible refine LeO.bind ?_ (fun _ => ?_))
      | exact ih0 _ _ _ _ _
      | exact ih1 _ _ _ _ _
      | exact ih2 _ _ _ _
      | exact gangerlaw03_known.mono _
      | exact gangerref03_Drop.mono _ _ _
      | exact gangerref03_Put.mono _ _ _ _ _
      | exact gangerref03_Same.mono _ _ _
      | exact rank_Drop.mono _ _ _
      | exact rank_Put.mono _ _ _ _ _
      | exact LeO.none _
      | refine LeO.ite ?_ ?_
      | refine LeO.bind ?_ (fun _ => ?_)
    · intro y0 y1 y2 y3
      unfold gangerlaw03_RankPuts.l1
      repeat' first
      | (with_reducible exact ih0 _ _ _ _ _)
      | (with_reducible exact ih1 _ _ _ _ _)
      | (with_reducible exact ih2 _ _ _ _)
      | (with_reducible exact gangerlaw03_known.mono _)
      | (with_reducible exact gangerref03_Drop.mono _ _ _)
      | (with_reducible exact gangerref03_Put.mono _ _ _ _ _)
      | (with_reducible exact gangerref03_Same.mono _ _ _)
      | (with_reducible exact rank_Drop.mono _ _ _)
      | (with_reducible exact rank_Put.mono _ _ _ _ _)
      | (with_reducible exact LeO.refl _)
      | (with_reducible exact LeO.none _)
      | (with_reducible refine LeO.ite ?_ ?_)
      | (with_reducible refine LeO.bind ?_ (fun _ => ?_))
      | exact ih0 _ _ _ _ _
      | exact ih1 _ _ _ _ _
      | exact ih2 _ _ _ _
      | exact gangerlaw03_known.mono _
      | exact gangerref03_Drop.mono _ _ _
      | exact gangerref03_Put.mono _ _ _ _ _
      | exact gangerref03_Same.mono _ _ _
      | exact rank_Drop.mono _ _ _
      | exact rank_Put.mono _ _ _ _ _
      | exact LeO.none _
      | refine LeO.ite ?_ ?_
      | refine LeO.bind ?_ (fun _ => ?_)
theorem gangerlaw03_RankPuts.mono : ∀ a0 a1 a2 a3 a4 k, LeO (gangerlaw03_RankPuts.f k a0 a1 a2 a3 a4) (gangerlaw03_RankPuts.f (k + 1) a0 a1 a2 a3 a4) := by
  intro a0 a1 a2 a3 a4 k
  obtain ⟨ih0, ih1, ih2⟩ := gangerlaw03_RankPuts.mono_l k
  unfold gangerlaw03_RankPuts.f
  repeat' first
      | (with_reducible exact ih0 _ _ _ _ _)
      | (with_reducible exact ih1 _ _ _ _ _)
      | (with_reducible exact ih2 _ _ _ _)
      | (with_reducible exact gangerlaw03_known.mono _)
      | (with_reducible exact gangerref03_Drop.mono _ _ _)
      | (with_reducible exact gangerref03_Put.mono _ _ _ _ _)
      | (with_reducible exact gangerref03_Same.mono _ _ _)
      | (with_reducible exact rank_Drop.mono _ _ _)
      | (with_reducible exact rank_Put.mono _ _ _ _ _)
      | (with_reducible exact LeO.refl _)
      | (with_reducible exact LeO.none _)
      | (with_reducible refine LeO.ite ?_ ?_)
      | (with_reducible refine LeO.bind ?_ (fun _ => ?_))
      | exact ih0 _ _ _ _ _
      | exact ih1 _ _ _ _ _
      | exact ih2 _ _ _ _
      | exact gangerlaw03_known.mono _
      | exact gangerref03_Drop.mono _ _ _
      | exact gangerref03_Put.mono _ _ _ _ _
      | exact gangerref03_Same.mono _ _ _
      | exact rank_Drop.mono _ _ _
      | exact rank_Put.mono _ _ _ _ _
      | exact LeO.none _
      | refine LeO.ite ?_ ?_
      | refine LeO.bind ?_ (fun _ => ?_)
set_option maxHeartbeats 8000000 in
set_option maxRecDepth 100000 in
theorem gangerlaw03_RankPuts.calls (k : Nat) (A0 : Option Addr) (c0 : Nat) (l0 : List (S24)) (a1_0 : Int) (a1_1 : Int) (a1_2 : Int) (a2 : Int) (r : Bool) (w : World) (hr0 : Kd.C k24 w A0 l0.length l0) (hc0 : l0.length ≤ c0) (h : gangerlaw03_RankPuts.f k l0 a1_0 a1_1 a1_2 a2 = some r) :
    Calls Try.prog 5 #[.slice A0 l0.length c0, .agg #[.int .i64 a1_0, .int .i64 a1_1, .int .u32 a1_2], .int .u32 a2] w fun e w' => e = .returned (.bool r) ∧ Below w.heap.size w w' := by
  have hu24 := Try.underlying24
  have HR0 := Aside0.mk hr0
  have HC0 := Aside0.mk hc0
  clear hr0 hc0
  have HB := Aside0.mk (Below.refl w.heap.size w)
  have H : ((gangerlaw03_many.f l0 ([] : List (S24))).bind fun t326 => (if t326 = true then ((gangerlaw03_known.f k).bind fun t327 => (some t327)) else ((gangerlaw03_copied.f l0).bind fun t328 => ((rank_Put.f k t328 a1_0 a1_1 a1_2).bind fun bt331 => ((gangerref03_Put.f k l0 a1_0 a1_1 a1_2).bind fun bt335 => ((rank_Drop.f k t328 a2).bind fun bt339 => ((gangerref03_Drop.f k l0 a2).bind fun bt343 => ((gangerref03_Same.f k bt331.1 bt335.1).bind fun t347 => (if t347 = true then (if bt331.2 = bt335.2 then ((gangerref03_Same.f k bt339.1 bt343.1).bind fun t348 => (if t348 = true then (gangerlaw03_RankPuts.j0 k l0 t328 bt331.1 bt339.1 (bt339.2 != bt343.2)) else (gangerlaw03_RankPuts.j0 k l0 t328 bt331.1 bt339.1 true))) else (gangerlaw03_RankPuts.j0 k l0 t328 bt331.1 bt339.1 true)) else (gangerlaw03_RankPuts.j0 k l0 t328 bt331.1 bt339.1 true)))))))))) = some r := h
  clear h
  replace H := Option.bind_eq_some_iff.mp H
  obtain ⟨t326, A40, H⟩ := H
  replace H : (if t326 = true then ((gangerlaw03_known.f k).bind fun t327 => (some t327)) else ((gangerlaw03_copied.f l0).bind fun t328 => ((rank_Put.f k t328 a1_0 a1_1 a1_2).bind fun bt331 => ((gangerref03_Put.f k l0 a1_0 a1_1 a1_2).bind fun bt335 => ((rank_Drop.f k t328 a2).bind fun bt339 => ((gangerref03_Drop.f k l0 a2).bind fun bt343 => ((gangerref03_Same.f k bt331.1 bt335.1).bind fun t347 => (if t347 = true then (if bt331.2 = bt335.2 then ((gangerref03_Same.f k bt339.1 bt343.1).bind fun t348 => (if t348 = true then (gangerlaw03_RankPuts.j0 k l0 t328 bt331.1 bt339.1 (bt339.2 != bt343.2)) else (gangerlaw03_RankPuts.j0 k l0 t328 bt331.1 bt339.1 true))) else (gangerlaw03_RankPuts.j0 k l0 t328 bt331.1 bt339.1 true)) else (gangerlaw03_RankPuts.j0 k l0 t328 bt331.1 bt339.1 true))))))))) = some r := H
  have A4 := Aside0.mk A40
  clear A40
  by_cases c5 : t326 = true
  · subst c5
    have H1 : ((gangerlaw03_known.f k).bind fun t327 => (some t327)) = some r := by rw [if_pos rfl] at H; exact H
    clear H
    have H := H1
    clear H1
    replace H := Option.bind_eq_some_iff.mp H
    obtain ⟨t327, A60, H⟩ := H
    replace H : (some t327) = some r := H
    have A6 := Aside0.mk A60
    clear A60
    obtain rfl := Option.some.inj H
    go_enter Try.func5, Try.ntmps5
    go_wp2_with (first | ((with_reducible refine gate_dst (N := 4) rfl ?_); refine box_event ?hg (N := 4) ?hd (cs := #[.int .i64 a1_0, .int .i64 a1_1, .int .u32 a1_2]) (t := 24) ?hr ?_; (case hd => rfl); (case hg => rfl); (case hr => first | (go_simp; done) | (go_simp; rfl)); intro gb325 hg w7 hbox hb; have n0_ := Aside0.mk (below_step (by repeat (first | (with_reducible first | exact HB.out | apply below_alloc | apply pw_below_drewN | apply below_drew1) | exact HB.out)) hb); have n1_ := Aside0.mk (hbox); have n2_ := Aside0.mk ((by rw [hg]; exact (below_size (by repeat (first | (with_reducible first | exact HB.out | apply below_alloc | apply pw_below_drewN | apply below_drew1) | exact HB.out))) : w.heap.size ≤ gb325)); have n3_ := Aside0.mk ((by rw [hg]; exact (below_size (by repeat (first | (with_reducible first | exact HB.out | apply below_alloc | apply pw_below_drewN | apply below_drew1) | exact HB.out))) : w.heap.size ≤ gb325)); clear HB; have HB := n0_; have BK325 := n1_; have GW325 := n2_; have GE325 := n3_; clear n0_ n1_ n2_ n3_; clear hb hbox hg) | ((with_reducible refine gate_callee (f := 13) rfl ?_); refine goesL_ (some 19) rfl rfl Try.func13 (by kernel_rfl) rfl #[.slice A0 l0.length c0, .slice none 0 0] rfl (by (try simp only [List.map_toArray, List.map_cons, List.map_nil]); first | done | rfl | (simp only [List.length_drop, List.length_take]; rfl)) ?_; (refine (gangerlaw03_many.calls _ _ l0 _ _ ([] : List (S24)) true _ ?side1 ?side2 ?side3 ?side4 A4.out).mono ?_); (case side1 => repeat (first | exact (Kd.C_below HR0.out HB.out) | (with_reducible refine Kd.C_alloc ?_ _) | (with_reducible refine Kd.C_drewN ?_ _) | (with_reducible refine Kd.C_drew ?_))); (case side2 => exact HC0.out); (case side3 => exact Kd.C_nil _ _); (case side4 => exact Nat.le_refl _); rintro e w' ⟨rfl, ⟨nd, rfl⟩⟩; refine ⟨_, rfl, ?_⟩) | ((with_reducible refine gate_callee (f := 12) rfl ?_); refine goesL_ (some 20) rfl rfl Try.func12 (by kernel_rfl) rfl #[] rfl (by (try simp only [List.map_toArray, List.map_cons, List.map_nil]); first | done | rfl | (simp only [List.length_drop, List.length_take]; rfl)) ?_; (with_reducible refine (gangerlaw03_known.calls k  t327 _ A6.out).mono ?_); rintro e w8 ⟨rfl, hb⟩; refine ⟨_, rfl, ?_⟩; have n0_ := Aside0.mk (blk_below (g := gb325) (o := .cells #[.int .i64 a1_0, .int .i64 a1_1, .int .u32 a1_2] 24 (0, 0)) (by (with_reducible repeat (first | refine blk_drewN ?_ _ | refine blk_drew ?_ | refine blk_alloc ?_ _)); exact BK325.out) hb); have n1_ := Aside0.mk (below_step (by repeat (first | (with_reducible first | exact HB.out | apply below_alloc | apply pw_below_drewN | apply below_drew1 | refine below_set ?_ GE325.out) | exact HB.out)) hb); clear BK325; clear HB; have BK325 := n0_; have HB := n1_; clear n0_ n1_; (try clear hb); (try clear hb2); (try clear hk); (try clear hi)))
    go_ret
    exact ⟨by first | rfl | (simp [errW_none, errW_some] <;> rfl) | (simp [*, errW_none, errW_some] <;> rfl), by repeat (first | (with_reducible first | exact HB.out | apply below_alloc | apply pw_below_drewN | apply below_drew1 | refine below_set ?_ GE325.out) | exact HB.out)⟩
  · replace c5 := Bool.eq_false_iff.mpr c5
    subst c5
    have H1 : ((gangerlaw03_copied.f l0).bind fun t328 => ((rank_Put.f k t328 a1_0 a1_1 a1_2).bind fun bt331 => ((gangerref03_Put.f k l0 a1_0 a1_1 a1_2).bind fun bt335 => ((rank_Drop.f k t328 a2).bind fun bt339 => ((gangerref03_Drop.f k l0 a2).bind fun bt343 => ((gangerref03_Same.f k bt331.1 bt335.1).bind fun t347 => (if t347 = true then (if bt331.2 = bt335.2 then ((gangerref03_Same.f k bt339.1 bt343.1).bind fun t348 => (if t348 = true then (gangerlaw03_RankPuts.j0 k l0 t328 bt331.1 bt339.1 (bt339.2 != bt343.2)) else (gangerlaw03_RankPuts.j0 k l0 t328 bt331.1 bt339.1 true))) else (gangerlaw03_RankPuts.j0 k l0 t328 bt331.1 bt339.1 true)) else (gangerlaw03_RankPuts.j0 k l0 t328 bt331.1 bt339.1 true)))))))) = some r := by rw [if_neg (show ¬ (false = true) by decide)] at H; exact H
    clear H
    have H := H1
    clear H1
    replace H := Option.bind_eq_some_iff.mp H
    obtain ⟨t328, A90, H⟩ := H
    replace H : ((rank_Put.f k t328 a1_0 a1_1 a1_2).bind fun bt331 => ((gangerref03_Put.f k l0 a1_0 a1_1 a1_2).bind fun bt335 => ((rank_Drop.f k t328 a2).bind fun bt339 => ((gangerref03_Drop.f k l0 a2).bind fun bt343 => ((gangerref03_Same.f k bt331.1 bt335.1).bind fun t347 => (if t347 = true then (if bt331.2 = bt335.2 then ((gangerref03_Same.f k bt339.1 bt343.1).bind fun t348 => (if t348 = true then (gangerlaw03_RankPuts.j0 k l0 t328 bt331.1 bt339.1 (bt339.2 != bt343.2)) else (gangerlaw03_RankPuts.j0 k l0 t328 bt331.1 bt339.1 true))) else (gangerlaw03_RankPuts.j0 k l0 t328 bt331.1 bt339.1 true)) else (gangerlaw03_RankPuts.j0 k l0 t328 bt331.1 bt339.1 true))))))) = some r := H
    have A9 := Aside0.mk A90
    clear A90
    replace H := Option.bind_eq_some_iff.mp H
    obtain ⟨⟨t331, t334⟩, A100, H⟩ := H
    replace H : ((gangerref03_Put.f k l0 a1_0 a1_1 a1_2).bind fun bt335 => ((rank_Drop.f k t328 a2).bind fun bt339 => ((gangerref03_Drop.f k l0 a2).bind fun bt343 => ((gangerref03_Same.f k t331 bt335.1).bind fun t347 => (if t347 = true then (if t334 = bt335.2 then ((gangerref03_Same.f k bt339.1 bt343.1).bind fun t348 => (if t348 = true then (gangerlaw03_RankPuts.j0 k l0 t328 t331 bt339.1 (bt339.2 != bt343.2)) else (gangerlaw03_RankPuts.j0 k l0 t328 t331 bt339.1 true))) else (gangerlaw03_RankPuts.j0 k l0 t328 t331 bt339.1 true)) else (gangerlaw03_RankPuts.j0 k l0 t328 t331 bt339.1 true)))))) = some r := H
    have A10 := Aside0.mk A100
    clear A100
    replace H := Option.bind_eq_some_iff.mp H
    obtain ⟨⟨t335, t338⟩, A110, H⟩ := H
    replace H : ((rank_Drop.f k t328 a2).bind fun bt339 => ((gangerref03_Drop.f k l0 a2).bind fun bt343 => ((gangerref03_Same.f k t331 t335).bind fun t347 => (if t347 = true then (if t334 = t338 then ((gangerref03_Same.f k bt339.1 bt343.1).bind fun t348 => (if t348 = true then (gangerlaw03_RankPuts.j0 k l0 t328 t331 bt339.1 (bt339.2 != bt343.2)) else (gangerlaw03_RankPuts.j0 k l0 t328 t331 bt339.1 true))) else (gangerlaw03_RankPuts.j0 k l0 t328 t331 bt339.1 true)) else (gangerlaw03_RankPuts.j0 k l0 t328 t331 bt339.1 true))))) = some r := H
    have A11 := Aside0.mk A110
    clear A110
    replace H := Option.bind_eq_some_iff.mp H
    obtain ⟨⟨t339, t340⟩, A120, H⟩ := H
    replace H : ((gangerref03_Drop.f k l0 a2).bind fun bt343 => ((gangerref03_Same.f k t331 t335).bind fun t347 => (if t347 = true then (if t334 = t338 then ((gangerref03_Same.f k t339 bt343.1).bind fun t348 => (if t348 = true then (gangerlaw03_RankPuts.j0 k l0 t328 t331 t339 (t340 != bt343.2)) else (gangerlaw03_RankPuts.j0 k l0 t328 t331 t339 true))) else (gangerlaw03_RankPuts.j0 k l0 t328 t331 t339 true)) else (gangerlaw03_RankPuts.j0 k l0 t328 t331 t339 true)))) = some r := H
    have A12 := Aside0.mk A120
    clear A120
    replace H := Option.bind_eq_some_iff.mp H
    obtain ⟨⟨t343, t344⟩, A130, H⟩ := H
    replace H : ((gangerref03_Same.f k t331 t335).bind fun t347 => (if t347 = true then (if t334 = t338 then ((gangerref03_Same.f k t339 t343).bind fun t348 => (if t348 = true then (gangerlaw03_RankPuts.j0 k l0 t328 t331 t339 (t340 != t344)) else (gangerlaw03_RankPuts.j0 k l0 t328 t331 t339 true))) else (gangerlaw03_RankPuts.j0 k l0 t328 t331 t339 true)) else (gangerlaw03_RankPuts.j0 k l0 t328 t331 t339 true))) = some r := H
    have A13 := Aside0.mk A130
    clear A130
    have HC14 := Aside0.mk H
    clear H
    go_enter Try.func5, Try.ntmps5
    go_upto_region 8 with (first | ((with_reducible refine gate_dst (N := 4) rfl ?_); refine box_event ?hg (N := 4) ?hd (cs := #[.int .i64 a1_0, .int .i64 a1_1, .int .u32 a1_2]) (t := 24) ?hr ?_; (case hd => rfl); (case hg => rfl); (case hr => first | (go_simp; done) | (go_simp; rfl)); intro gb325 hg w15 hbox hb; have n0_ := Aside0.mk (below_step (by repeat (first | (with_reducible first | exact HB.out | apply below_alloc | apply pw_below_drewN | apply below_drew1) | exact HB.out)) hb); have n1_ := Aside0.mk (hbox); have n2_ := Aside0.mk ((by rw [hg]; exact (below_size (by repeat (first | (with_reducible first | exact HB.out | apply below_alloc | apply pw_below_drewN | apply below_drew1) | exact HB.out))) : w.heap.size ≤ gb325)); have n3_ := Aside0.mk ((by rw [hg]; exact (below_size (by repeat (first | (with_reducible first | exact HB.out | apply below_alloc | apply pw_below_drewN | apply below_drew1) | exact HB.out))) : w.heap.size ≤ gb325)); clear HB; have HB := n0_; have BK325 := n1_; have GW325 := n2_; have GE325 := n3_; clear n0_ n1_ n2_ n3_; clear hb hbox hg) | ((with_reducible refine gate_callee (f := 13) rfl ?_); refine goesL_ (some 19) rfl rfl Try.func13 (by kernel_rfl) rfl #[.slice A0 l0.length c0, .slice none 0 0] rfl (by (try simp only [List.map_toArray, List.map_cons, List.map_nil]); first | done | rfl | (simp only [List.length_drop, List.length_take]; rfl)) ?_; (refine (gangerlaw03_many.calls _ _ l0 _ _ ([] : List (S24)) false _ ?side1 ?side2 ?side3 ?side4 A4.out).mono ?_); (case side1 => repeat (first | exact (Kd.C_below HR0.out HB.out) | (with_reducible refine Kd.C_alloc ?_ _) | (with_reducible refine Kd.C_drewN ?_ _) | (with_reducible refine Kd.C_drew ?_))); (case side2 => exact HC0.out); (case side3 => exact Kd.C_nil _ _); (case side4 => exact Nat.le_refl _); rintro e w' ⟨rfl, ⟨nd, rfl⟩⟩; refine ⟨_, rfl, ?_⟩) | ((with_reducible refine gate_callee (f := 14) rfl ?_); refine goesL_ (some 22) rfl rfl Try.func14 (by kernel_rfl) rfl #[.slice A0 l0.length c0] rfl (by (try simp only [List.map_toArray, List.map_cons, List.map_nil]); first | done | rfl | (simp only [List.length_drop, List.length_take]; rfl)) ?_; (with_reducible refine (gangerlaw03_copied.calls _ _ l0 t328 _ ?side1 ?side2 A9.out).mono ?_); (case side1 => repeat (first | exact (Kd.C_below HR0.out (by repeat (first | (with_reducible first | exact HB.out | apply below_alloc | apply pw_below_drewN | apply below_drew1 | refine below_set ?_ GE325.out) | exact HB.out))) | (with_reducible refine Kd.C_alloc ?_ _) | (with_reducible refine Kd.C_drewN ?_ _) | (with_reducible refine Kd.C_drew ?_))); (case side2 => exact HC0.out); rintro e w16 ⟨v329, rfl, ho0, hb⟩; refine ⟨_, rfl, ?_⟩; have n0_ := Aside0.mk (Kd.R_lower (Kd.R_newB ho0 (g := gb325) (o := .cells #[.int .i64 a1_0, .int .i64 a1_1, .int .u32 a1_2] 24 (0, 0)) (by (with_reducible repeat (first | refine blk_drewN ?_ _ | refine blk_drew ?_ | refine blk_alloc ?_ _)); exact BK325.out)) (below_size (by repeat (first | (with_reducible first | exact HB.out | apply below_alloc | apply pw_below_drewN | apply below_drew1 | refine below_set ?_ GE325.out) | exact HB.out)))); have n1_ := Aside0.mk (blk_below (g := gb325) (o := .cells #[.int .i64 a1_0, .int .i64 a1_1, .int .u32 a1_2] 24 (0, 0)) (by (with_reducible repeat (first | refine blk_drewN ?_ _ | refine blk_drew ?_ | refine blk_alloc ?_ _)); exact BK325.out) hb); have n2_ := Aside0.mk (below_step (by repeat (first | (with_reducible first | exact HB.out | apply below_alloc | apply pw_below_drewN | apply below_drew1 | refine below_set ?_ GE325.out) | exact HB.out)) hb); clear BK325; clear HB; have HO330 := n0_; have BK325 := n1_; have HB := n2_; clear n0_ n1_ n2_; (try clear hb); (try clear hb2); (try clear hk); (try clear hi); (try clear ho0); have hcz17_0 : w16.cell? ⟨gb325, 0, none⟩ = some (.int .i64 a1_0) := (blk_cell BK325.out 0).trans rfl; have hcz17_1 : w16.cell? ⟨gb325, 1, none⟩ = some (.int .i64 a1_1) := (blk_cell BK325.out 1).trans rfl; have hcz17_2 : w16.cell? ⟨gb325, 2, none⟩ = some (.int .u32 a1_2) := (blk_cell BK325.out 2).trans rfl; have hfz17_0 := blk_frozen BK325.out 0; have hfz17_1 := blk_frozen BK325.out 1; have hfz17_2 := blk_frozen BK325.out 2; obtain ⟨Ao18, co18, eo18⟩ := Kd.R_slice HO330.out; subst eo18) | ((with_reducible refine gate_callee (f := 18) rfl ?_); refine goesL_ (some 26) rfl rfl Try.func18 (by kernel_rfl) rfl #[.slice Ao18 t328.length co18, .agg #[.int .i64 a1_0, .int .i64 a1_1, .int .u32 a1_2]] rfl (by (try simp only [List.map_toArray, List.map_cons, List.map_nil]); first | done | rfl | (simp only [List.length_drop, List.length_take]; rfl)) ?_; (with_reducible refine (rank_Put.calls k _ _ t328 a1_0 a1_1 a1_2 t331 t334 _ ?side1 ?side2 A10.out).mono ?_); (case side1 => repeat (first | exact (Kd.R_reads' HO330.out).2.2 | (with_reducible refine Kd.C_alloc ?_ _) | (with_reducible refine Kd.C_drewN ?_ _) | (with_reducible refine Kd.C_drew ?_))); (case side2 => exact (Kd.R_reads' HO330.out).2.1); rintro e w19 ⟨v332, rfl, ho0, hb⟩; refine ⟨_, rfl, ?_⟩; have n0_ := Aside0.mk (Kd.R_elder' (by (with_reducible repeat (first | apply Kd.R_alloc | apply Kd.R_drewN | apply Kd.R_drew)); exact HO330.out) (Kd.R_base ho0) hb); have n1_ := Aside0.mk (Kd.R_lower (Kd.R_newB (Kd.R_new' ho0 (Kd.R_lt (by (with_reducible repeat (first | apply Kd.R_alloc | apply Kd.R_drewN | apply Kd.R_drew)); exact HO330.out))) (g := gb325) (o := .cells #[.int .i64 a1_0, .int .i64 a1_1, .int .u32 a1_2] 24 (0, 0)) (by (with_reducible repeat (first | refine blk_drewN ?_ _ | refine blk_drew ?_ | refine blk_alloc ?_ _)); exact BK325.out)) (below_size (by repeat (first | (with_reducible first | exact HB.out | apply below_alloc | apply pw_below_drewN | apply below_drew1 | refine below_set ?_ GE325.out) | exact HB.out)))); have n2_ := Aside0.mk (blk_below (g := gb325) (o := .cells #[.int .i64 a1_0, .int .i64 a1_1, .int .u32 a1_2] 24 (0, 0)) (by (with_reducible repeat (first | refine blk_drewN ?_ _ | refine blk_drew ?_ | refine blk_alloc ?_ _)); exact BK325.out) hb); have n3_ := Aside0.mk (below_step (by repeat (first | (with_reducible first | exact HB.out | apply below_alloc | apply pw_below_drewN | apply below_drew1 | refine below_set ?_ GE325.out) | exact HB.out)) hb); clear HO330; clear BK325; clear HB; have HO330 := n0_; have HO333 := n1_; have BK325 := n2_; have HB := n3_; clear n0_ n1_ n2_ n3_; (try clear hb); (try clear hb2); (try clear hk); (try clear hi); (try clear ho0); have hcz20_0 : w19.cell? ⟨gb325, 0, none⟩ = some (.int .i64 a1_0) := (blk_cell BK325.out 0).trans rfl; have hcz20_1 : w19.cell? ⟨gb325, 1, none⟩ = some (.int .i64 a1_1) := (blk_cell BK325.out 1).trans rfl; have hcz20_2 : w19.cell? ⟨gb325, 2, none⟩ = some (.int .u32 a1_2) := (blk_cell BK325.out 2).trans rfl; have hfz20_0 := blk_frozen BK325.out 0; have hfz20_1 := blk_frozen BK325.out 1; have hfz20_2 := blk_frozen BK325.out 2) | ((with_reducible refine gate_callee (f := 19) rfl ?_); refine goesL_ (some 32) rfl rfl Try.func19 (by kernel_rfl) rfl #[.slice A0 l0.length c0, .agg #[.int .i64 a1_0, .int .i64 a1_1, .int .u32 a1_2]] rfl (by (try simp only [List.map_toArray, List.map_cons, List.map_nil]); first | done | rfl | (simp only [List.length_drop, List.length_take]; rfl)) ?_; (with_reducible refine (gangerref03_Put.calls k _ _ l0 a1_0 a1_1 a1_2 t335 t338 _ ?side1 ?side2 A11.out).mono ?_); (case side1 => repeat (first | exact (Kd.C_below HR0.out HB.out) | (with_reducible refine Kd.C_alloc ?_ _) | (with_reducible refine Kd.C_drewN ?_ _) | (with_reducible refine Kd.C_drew ?_))); (case side2 => exact HC0.out); rintro e w21 ⟨v336, rfl, ho0, hb⟩; refine ⟨_, rfl, ?_⟩; have n0_ := Aside0.mk (Kd.R_elder' (by (with_reducible repeat (first | apply Kd.R_alloc | apply Kd.R_drewN | apply Kd.R_drew)); exact HO330.out) (Kd.R_base ho0) hb); have n1_ := Aside0.mk (Kd.R_elder' (by (with_reducible repeat (first | apply Kd.R_alloc | apply Kd.R_drewN | apply Kd.R_drew)); exact HO333.out) (Kd.R_base ho0) hb); have n2_ := Aside0.mk (Kd.R_lower (Kd.R_newB (Kd.R_new' (Kd.R_new' ho0 (Kd.R_lt (by (with_reducible repeat (first | apply Kd.R_alloc | apply Kd.R_drewN | apply Kd.R_drew)); exact HO330.out))) (Kd.R_lt (by (with_reducible repeat (first | apply Kd.R_alloc | apply Kd.R_drewN | apply Kd.R_drew)); exact HO333.out))) (g := gb325) (o := .cells #[.int .i64 a1_0, .int .i64 a1_1, .int .u32 a1_2] 24 (0, 0)) (by (with_reducible repeat (first | refine blk_drewN ?_ _ | refine blk_drew ?_ | refine blk_alloc ?_ _)); exact BK325.out)) (below_size (by repeat (first | (with_reducible first | exact HB.out | apply below_alloc | apply pw_below_drewN | apply below_drew1 | refine below_set ?_ GE325.out) | exact HB.out)))); have n3_ := Aside0.mk (blk_below (g := gb325) (o := .cells #[.int .i64 a1_0, .int .i64 a1_1, .int .u32 a1_2] 24 (0, 0)) (by (with_reducible repeat (first | refine blk_drewN ?_ _ | refine blk_drew ?_ | refine blk_alloc ?_ _)); exact BK325.out) hb); have n4_ := Aside0.mk (below_step (by repeat (first | (with_reducible first | exact HB.out | apply below_alloc | apply pw_below_drewN | apply below_drew1 | refine below_set ?_ GE325.out) | exact HB.out)) hb); clear HO330; clear HO333; clear BK325; clear HB; have HO330 := n0_; have HO333 := n1_; have HO337 := n2_; have BK325 := n3_; have HB := n4_; clear n0_ n1_ n2_ n3_ n4_; (try clear hb); (try clear hb2); (try clear hk); (try clear hi); (try clear ho0)) | ((with_reducible refine gate_callee (f := 20) rfl ?_); refine goesL_ (some 38) rfl rfl Try.func20 (by kernel_rfl) rfl #[.slice Ao18 t328.length co18, .int .u32 a2] rfl (by (try simp only [List.map_toArray, List.map_cons, List.map_nil]); first | done | rfl | (simp only [List.length_drop, List.length_take]; rfl)) ?_; (with_reducible refine (rank_Drop.calls k _ _ t328 a2 t339 t340 _ ?side1 ?side2 A12.out).mono ?_); (case side1 => repeat (first | exact (Kd.R_reads' HO330.out).2.2 | (with_reducible refine Kd.C_alloc ?_ _) | (with_reducible refine Kd.C_drewN ?_ _) | (with_reducible refine Kd.C_drew ?_))); (case side2 => exact (Kd.R_reads' HO330.out).2.1); rintro e w22 ⟨v341, rfl, ho0, hb⟩; refine ⟨_, rfl, ?_⟩; have n0_ := Aside0.mk (Kd.R_elder' (by (with_reducible repeat (first | apply Kd.R_alloc | apply Kd.R_drewN | apply Kd.R_drew)); exact HO330.out) (Kd.R_base ho0) hb); have n1_ := Aside0.mk (Kd.R_elder' (by (with_reducible repeat (first | apply Kd.R_alloc | apply Kd.R_drewN | apply Kd.R_drew)); exact HO333.out) (Kd.R_base ho0) hb); have n2_ := Aside0.mk (Kd.R_elder' (by (with_reducible repeat (first | apply Kd.R_alloc | apply Kd.R_drewN | apply Kd.R_drew)); exact HO337.out) (Kd.R_base ho0) hb); have n3_ := Aside0.mk (Kd.R_lower (Kd.R_newB (Kd.R_new' (Kd.R_new' (Kd.R_new' ho0 (Kd.R_lt (by (with_reducible repeat (first | apply Kd.R_alloc | apply Kd.R_drewN | apply Kd.R_drew)); exact HO330.out))) (Kd.R_lt (by (with_reducible repeat (first | apply Kd.R_alloc | apply Kd.R_drewN | apply Kd.R_drew)); exact HO333.out))) (Kd.R_lt (by (with_reducible repeat (first | apply Kd.R_alloc | apply Kd.R_drewN | apply Kd.R_drew)); exact HO337.out))) (g := gb325) (o := .cells #[.int .i64 a1_0, .int .i64 a1_1, .int .u32 a1_2] 24 (0, 0)) (by (with_reducible repeat (first | refine blk_drewN ?_ _ | refine blk_drew ?_ | refine blk_alloc ?_ _)); exact BK325.out)) (below_size (by repeat (first | (with_reducible first | exact HB.out | apply below_alloc | apply pw_below_drewN | apply below_drew1 | refine below_set ?_ GE325.out) | exact HB.out)))); have n4_ := Aside0.mk (blk_below (g := gb325) (o := .cells #[.int .i64 a1_0, .int .i64 a1_1, .int .u32 a1_2] 24 (0, 0)) (by (with_reducible repeat (first | refine blk_drewN ?_ _ | refine blk_drew ?_ | refine blk_alloc ?_ _)); exact BK325.out) hb); have n5_ := Aside0.mk (below_step (by repeat (first | (with_reducible first | exact HB.out | apply below_alloc | apply pw_below_drewN | apply below_drew1 | refine below_set ?_ GE325.out) | exact HB.out)) hb); clear HO330; clear HO333; clear HO337; clear BK325; clear HB; have HO330 := n0_; have HO333 := n1_; have HO337 := n2_; have HO342 := n3_; have BK325 := n4_; have HB := n5_; clear n0_ n1_ n2_ n3_ n4_ n5_; (try clear hb); (try clear hb2); (try clear hk); (try clear hi); (try clear ho0)) | ((with_reducible refine gate_callee (f := 21) rfl ?_); refine goesL_ (some 44) rfl rfl Try.func21 (by kernel_rfl) rfl #[.slice A0 l0.length c0, .int .u32 a2] rfl (by (try simp only [List.map_toArray, List.map_cons, List.map_nil]); first | done | rfl | (simp only [List.length_drop, List.length_take]; rfl)) ?_; (with_reducible refine (gangerref03_Drop.calls k _ _ l0 a2 t343 t344 _ ?side1 ?side2 A13.out).mono ?_); (case side1 => repeat (first | exact (Kd.C_below HR0.out HB.out) | (with_reducible refine Kd.C_alloc ?_ _) | (with_reducible refine Kd.C_drewN ?_ _) | (with_reducible refine Kd.C_drew ?_))); (case side2 => exact HC0.out); rintro e w23 ⟨v345, rfl, ho0, hb⟩; refine ⟨_, rfl, ?_⟩; have n0_ := Aside0.mk (Kd.R_elder' (by (with_reducible repeat (first | apply Kd.R_alloc | apply Kd.R_drewN | apply Kd.R_drew)); exact HO330.out) (Kd.R_base ho0) hb); have n1_ := Aside0.mk (Kd.R_elder' (by (with_reducible repeat (first | apply Kd.R_alloc | apply Kd.R_drewN | apply Kd.R_drew)); exact HO333.out) (Kd.R_base ho0) hb); have n2_ := Aside0.mk (Kd.R_elder' (by (with_reducible repeat (first | apply Kd.R_alloc | apply Kd.R_drewN | apply Kd.R_drew)); exact HO337.out) (Kd.R_base ho0) hb); have n3_ := Aside0.mk (Kd.R_elder' (by (with_reducible repeat (first | apply Kd.R_alloc | apply Kd.R_drewN | apply Kd.R_drew)); exact HO342.out) (Kd.R_base ho0) hb); have n4_ := Aside0.mk (Kd.R_lower (Kd.R_newB (Kd.R_new' (Kd.R_new' (Kd.R_new' (Kd.R_new' ho0 (Kd.R_lt (by (with_reducible repeat (first | apply Kd.R_alloc | apply Kd.R_drewN | apply Kd.R_drew)); exact HO330.out))) (Kd.R_lt (by (with_reducible repeat (first | apply Kd.R_alloc | apply Kd.R_drewN | apply Kd.R_drew)); exact HO333.out))) (Kd.R_lt (by (with_reducible repeat (first | apply Kd.R_alloc | apply Kd.R_drewN | apply Kd.R_drew)); exact HO337.out))) (Kd.R_lt (by (with_reducible repeat (first | apply Kd.R_alloc | apply Kd.R_drewN | apply Kd.R_drew)); exact HO342.out))) (g := gb325) (o := .cells #[.int .i64 a1_0, .int .i64 a1_1, .int .u32 a1_2] 24 (0, 0)) (by (with_reducible repeat (first | refine blk_drewN ?_ _ | refine blk_drew ?_ | refine blk_alloc ?_ _)); exact BK325.out)) (below_size (by repeat (first | (with_reducible first | exact HB.out | apply below_alloc | apply pw_below_drewN | apply below_drew1 | refine below_set ?_ GE325.out) | exact HB.out)))); have n5_ := Aside0.mk (blk_below (g := gb325) (o := .cells #[.int .i64 a1_0, .int .i64 a1_1, .int .u32 a1_2] 24 (0, 0)) (by (with_reducible repeat (first | refine blk_drewN ?_ _ | refine blk_drew ?_ | refine blk_alloc ?_ _)); exact BK325.out) hb); have n6_ := Aside0.mk (below_step (by repeat (first | (with_reducible first | exact HB.out | apply below_alloc | apply pw_below_drewN | apply below_drew1 | refine below_set ?_ GE325.out) | exact HB.out)) hb); clear HO330; clear HO333; clear HO337; clear HO342; clear BK325; clear HB; have HO330 := n0_; have HO333 := n1_; have HO337 := n2_; have HO342 := n3_; have HO346 := n4_; have BK325 := n5_; have HB := n6_; clear n0_ n1_ n2_ n3_ n4_ n5_ n6_; (try clear hb); (try clear hb2); (try clear hk); (try clear hi); (try clear ho0)))
    (try simp only [Act.put, List.setIfInBounds_toArray, List.set_cons_zero, List.set_cons_succ])
    go_cut [66] (fun v66 wc => ∃ (kq : Nat) (x66_13 : Bool), v66 = .bool x66_13 ∧ Aside0 (gangerlaw03_RankPuts.j0 kq l0 t328 t331 t339 x66_13 = some r) ∧ Aside0 (kq ≤ k) ∧ Aside0 (Kd.R k24 24 wc w.heap.size (fun k_ => some k_ ≠ (v332 : Value).ownBlock ∧ some k_ ≠ (v341 : Value).ownBlock ∧ k_ ≠ gb325) (.slice Ao18 t328.length co18) t328) ∧ Aside0 (Kd.R k24 24 wc w.heap.size (fun k_ => some k_ ≠ ((.slice Ao18 t328.length co18) : Value).ownBlock ∧ some k_ ≠ (v341 : Value).ownBlock ∧ k_ ≠ gb325) v332 t331) ∧ Aside0 (Kd.R k24 24 wc w.heap.size (fun k_ => some k_ ≠ ((.slice Ao18 t328.length co18) : Value).ownBlock ∧ some k_ ≠ (v332 : Value).ownBlock ∧ k_ ≠ gb325) v341 t339) ∧ Aside0 (wc.heap[gb325]? = some (.cells #[.int .i64 a1_0, .int .i64 a1_1, .int .u32 a1_2] 24 (0, 0))) ∧ Aside0 (Below w.heap.size w wc))
    case first =>
      have H := HC14.out
      clear HC14
      replace H := Option.bind_eq_some_iff.mp H
      obtain ⟨t347, A240, H⟩ := H
      replace H : (if t347 = true then (if t334 = t338 then ((gangerref03_Same.f k t339 t343).bind fun t348 => (if t348 = true then (gangerlaw03_RankPuts.j0 k l0 t328 t331 t339 (t340 != t344)) else (gangerlaw03_RankPuts.j0 k l0 t328 t331 t339 true))) else (gangerlaw03_RankPuts.j0 k l0 t328 t331 t339 true)) else (gangerlaw03_RankPuts.j0 k l0 t328 t331 t339 true)) = some r := H
      have A24 := Aside0.mk A240
      clear A240
      by_cases c25 : t347 = true
      · subst c25
        have H1 : (if t334 = t338 then ((gangerref03_Same.f k t339 t343).bind fun t348 => (if t348 = true then (gangerlaw03_RankPuts.j0 k l0 t328 t331 t339 (t340 != t344)) else (gangerlaw03_RankPuts.j0 k l0 t328 t331 t339 true))) else (gangerlaw03_RankPuts.j0 k l0 t328 t331 t339 true)) = some r := by rw [if_pos rfl] at H; exact H
        clear H
        have H := H1
        clear H1
        by_cases c26 : t334 = t338
        · rw [if_pos c26] at H
          have c26b0 : (t334 == t338) = true := beq_iff_eq.mpr c26
          have c26b1 : (t334 != t338) = false := bne_eq_false_iff_eq.mpr c26
          clear c26
          (first | rw [c26b0] | (simp only [i64_w, i32_w]; rw [c26b0]) | skip)
          replace H := Option.bind_eq_some_iff.mp H
          obtain ⟨t348, A270, H⟩ := H
          replace H : (if t348 = true then (gangerlaw03_RankPuts.j0 k l0 t328 t331 t339 (t340 != t344)) else (gangerlaw03_RankPuts.j0 k l0 t328 t331 t339 true)) = some r := H
          have A27 := Aside0.mk A270
          clear A270
          by_cases c28 : t348 = true
          · subst c28
            have H1 : (gangerlaw03_RankPuts.j0 k l0 t328 t331 t339 (t340 != t344)) = some r := by rw [if_pos rfl] at H; exact H
            clear H
            have H := H1
            clear H1
            have H' := Aside0.mk H
            clear H
            obtain ⟨Ao29, co29, eo29⟩ := Kd.R_slice HO333.out
            subst eo29
            obtain ⟨Ao30, co30, eo30⟩ := Kd.R_slice HO337.out
            subst eo30
            go_wp2_with (first | ((with_reducible refine gate_callee (f := 17) rfl ?_); refine goesL_ (some 49) rfl rfl Try.func17 (by kernel_rfl) rfl #[.slice Ao29 t331.length co29, .slice Ao30 t335.length co30] rfl (by (try simp only [List.map_toArray, List.map_cons, List.map_nil]); first | done | rfl | (simp only [List.length_drop, List.length_take]; rfl)) ?_; (with_reducible refine (gangerref03_Same.calls k _ _ t331 _ _ t335 true _ ?side1 ?side2 ?side3 ?side4 A24.out).mono ?_); (case side1 => repeat (first | exact (Kd.R_reads' HO333.out).2.2 | (with_reducible refine Kd.C_alloc ?_ _) | (with_reducible refine Kd.C_drewN ?_ _) | (with_reducible refine Kd.C_drew ?_))); (case side2 => exact (Kd.R_reads' HO333.out).2.1); (case side3 => repeat (first | exact (Kd.R_reads' HO337.out).2.2 | (with_reducible refine Kd.C_alloc ?_ _) | (with_reducible refine Kd.C_drewN ?_ _) | (with_reducible refine Kd.C_drew ?_))); (case side4 => exact (Kd.R_reads' HO337.out).2.1); rintro e w' ⟨rfl, ⟨nd, rfl⟩⟩; refine ⟨_, rfl, ?_⟩; obtain ⟨Ao31, co31, eo31⟩ := Kd.R_slice HO342.out; subst eo31; obtain ⟨Ao32, co32, eo32⟩ := Kd.R_slice HO346.out; subst eo32) | (go_at_call 17; (with_reducible refine (gangerref03_Same.calls k _ _ t339 _ _ t343 true _ ?side1 ?side2 ?side3 ?side4 A27.out).mono ?_); (case side1 => repeat (first | exact (Kd.R_reads' HO342.out).2.2 | (with_reducible refine Kd.C_alloc ?_ _) | (with_reducible refine Kd.C_drewN ?_ _) | (with_reducible refine Kd.C_drew ?_))); (case side2 => exact (Kd.R_reads' HO342.out).2.1); (case side3 => repeat (first | exact (Kd.R_reads' HO346.out).2.2 | (with_reducible refine Kd.C_alloc ?_ _) | (with_reducible refine Kd.C_drewN ?_ _) | (with_reducible refine Kd.C_drew ?_))); (case side4 => exact (Kd.R_reads' HO346.out).2.1); rintro e w' ⟨rfl, ⟨nd, rfl⟩⟩))
            go_meet
            case rel => exact ⟨_, ((t340 != t344)), (by first | rfl | (simp; done) | (simp [*]; done)), H', ⟨by first | omega | exact Nat.le_refl _⟩, ⟨by (with_reducible repeat (first | apply Kd.R_alloc | apply Kd.R_drewN | apply Kd.R_drew)); exact Kd.R_mono HO330.out (fun _ hk => ⟨hk.1.1.1.2, ⟨hk.1.2, hk.1.1.1.1.2⟩⟩)⟩, ⟨by (with_reducible repeat (first | apply Kd.R_alloc | apply Kd.R_drewN | apply Kd.R_drew)); exact Kd.R_mono HO333.out (fun _ hk => ⟨hk.1.1.1.1.2, ⟨hk.1.2, hk.1.1.1.2⟩⟩)⟩, ⟨by (with_reducible repeat (first | apply Kd.R_alloc | apply Kd.R_drewN | apply Kd.R_drew)); exact Kd.R_mono HO342.out (fun _ hk => ⟨hk.1.1.1.1.2, ⟨hk.1.1.1.2, hk.1.2⟩⟩)⟩, ⟨by (with_reducible repeat (first | refine blk_drewN ?_ _ | refine blk_drew ?_ | refine blk_alloc ?_ _)); exact BK325.out⟩, ⟨by repeat (first | (with_reducible first | exact HB.out | apply below_alloc | apply pw_below_drewN | apply below_drew1 | refine below_set ?_ GE325.out) | exact HB.out)⟩⟩
          · replace c28 := Bool.eq_false_iff.mpr c28
            subst c28
            have H1 : (gangerlaw03_RankPuts.j0 k l0 t328 t331 t339 true) = some r := by rw [if_neg (show ¬ (false = true) by decide)] at H; exact H
            clear H
            have H := H1
            clear H1
            have H' := Aside0.mk H
            clear H
            obtain ⟨Ao33, co33, eo33⟩ := Kd.R_slice HO333.out
            subst eo33
            obtain ⟨Ao34, co34, eo34⟩ := Kd.R_slice HO337.out
            subst eo34
            go_wp2_with (first | ((with_reducible refine gate_callee (f := 17) rfl ?_); refine goesL_ (some 49) rfl rfl Try.func17 (by kernel_rfl) rfl #[.slice Ao33 t331.length co33, .slice Ao34 t335.length co34] rfl (by (try simp only [List.map_toArray, List.map_cons, List.map_nil]); first | done | rfl | (simp only [List.length_drop, List.length_take]; rfl)) ?_; (with_reducible refine (gangerref03_Same.calls k _ _ t331 _ _ t335 true _ ?side1 ?side2 ?side3 ?side4 A24.out).mono ?_); (case side1 => repeat (first | exact (Kd.R_reads' HO333.out).2.2 | (with_reducible refine Kd.C_alloc ?_ _) | (with_reducible refine Kd.C_drewN ?_ _) | (with_reducible refine Kd.C_drew ?_))); (case side2 => exact (Kd.R_reads' HO333.out).2.1); (case side3 => repeat (first | exact (Kd.R_reads' HO337.out).2.2 | (with_reducible refine Kd.C_alloc ?_ _) | (with_reducible refine Kd.C_drewN ?_ _) | (with_reducible refine Kd.C_drew ?_))); (case side4 => exact (Kd.R_reads' HO337.out).2.1); rintro e w' ⟨rfl, ⟨nd, rfl⟩⟩; refine ⟨_, rfl, ?_⟩; obtain ⟨Ao35, co35, eo35⟩ := Kd.R_slice HO342.out; subst eo35; obtain ⟨Ao36, co36, eo36⟩ := Kd.R_slice HO346.out; subst eo36) | (go_at_call 17; (with_reducible refine (gangerref03_Same.calls k _ _ t339 _ _ t343 false _ ?side1 ?side2 ?side3 ?side4 A27.out).mono ?_); (case side1 => repeat (first | exact (Kd.R_reads' HO342.out).2.2 | (with_reducible refine Kd.C_alloc ?_ _) | (with_reducible refine Kd.C_drewN ?_ _) | (with_reducible refine Kd.C_drew ?_))); (case side2 => exact (Kd.R_reads' HO342.out).2.1); (case side3 => repeat (first | exact (Kd.R_reads' HO346.out).2.2 | (with_reducible refine Kd.C_alloc ?_ _) | (with_reducible refine Kd.C_drewN ?_ _) | (with_reducible refine Kd.C_drew ?_))); (case side4 => exact (Kd.R_reads' HO346.out).2.1); rintro e w' ⟨rfl, ⟨nd, rfl⟩⟩))
            go_meet
            case rel => exact ⟨_, (true), (by first | rfl | (simp; done) | (simp [*]; done)), H', ⟨by first | omega | exact Nat.le_refl _⟩, ⟨by (with_reducible repeat (first | apply Kd.R_alloc | apply Kd.R_drewN | apply Kd.R_drew)); exact Kd.R_mono HO330.out (fun _ hk => ⟨hk.1.1.1.2, ⟨hk.1.2, hk.1.1.1.1.2⟩⟩)⟩, ⟨by (with_reducible repeat (first | apply Kd.R_alloc | apply Kd.R_drewN | apply Kd.R_drew)); exact Kd.R_mono HO333.out (fun _ hk => ⟨hk.1.1.1.1.2, ⟨hk.1.2, hk.1.1.1.2⟩⟩)⟩, ⟨by (with_reducible repeat (first | apply Kd.R_alloc | apply Kd.R_drewN | apply Kd.R_drew)); exact Kd.R_mono HO342.out (fun _ hk => ⟨hk.1.1.1.1.2, ⟨hk.1.1.1.2, hk.1.2⟩⟩)⟩, ⟨by (with_reducible repeat (first | refine blk_drewN ?_ _ | refine blk_drew ?_ | refine blk_alloc ?_ _)); exact BK325.out⟩, ⟨by repeat (first | (with_reducible first | exact HB.out | apply below_alloc | apply pw_below_drewN | apply below_drew1 | refine below_set ?_ GE325.out) | exact HB.out)⟩⟩
        · rw [if_neg c26] at H
          have c26b0 : (t334 == t338) = false := beq_eq_false_iff_ne.mpr c26
          have c26b1 : (t334 != t338) = true := bne_iff_ne.mpr c26
          (first | rw [c26b0] | (simp only [i64_w, i32_w]; rw [c26b0]) | skip)
          have H' := Aside0.mk H
          clear H
          obtain ⟨Ao37, co37, eo37⟩ := Kd.R_slice HO333.out
          subst eo37
          obtain ⟨Ao38, co38, eo38⟩ := Kd.R_slice HO337.out
          subst eo38
          go_wp2_with (first | ((with_reducible refine gate_callee (f := 17) rfl ?_); refine goesL_ (some 49) rfl rfl Try.func17 (by kernel_rfl) rfl #[.slice Ao37 t331.length co37, .slice Ao38 t335.length co38] rfl (by (try simp only [List.map_toArray, List.map_cons, List.map_nil]); first | done | rfl | (simp only [List.length_drop, List.length_take]; rfl)) ?_; (with_reducible refine (gangerref03_Same.calls k _ _ t331 _ _ t335 true _ ?side1 ?side2 ?side3 ?side4 A24.out).mono ?_); (case side1 => repeat (first | exact (Kd.R_reads' HO333.out).2.2 | (with_reducible refine Kd.C_alloc ?_ _) | (with_reducible refine Kd.C_drewN ?_ _) | (with_reducible refine Kd.C_drew ?_))); (case side2 => exact (Kd.R_reads' HO333.out).2.1); (case side3 => repeat (first | exact (Kd.R_reads' HO337.out).2.2 | (with_reducible refine Kd.C_alloc ?_ _) | (with_reducible refine Kd.C_drewN ?_ _) | (with_reducible refine Kd.C_drew ?_))); (case side4 => exact (Kd.R_reads' HO337.out).2.1); rintro e w' ⟨rfl, ⟨nd, rfl⟩⟩; refine ⟨_, rfl, ?_⟩))
          go_meet
          case rel => exact ⟨_, (true), (by first | rfl | (simp; done) | (simp [*]; done)), H', ⟨by first | omega | exact Nat.le_refl _⟩, ⟨by (with_reducible repeat (first | apply Kd.R_alloc | apply Kd.R_drewN | apply Kd.R_drew)); exact Kd.R_mono HO330.out (fun _ hk => ⟨hk.1.1.1.2, ⟨hk.1.2, hk.1.1.1.1.2⟩⟩)⟩, ⟨by (with_reducible repeat (first | apply Kd.R_alloc | apply Kd.R_drewN | apply Kd.R_drew)); exact Kd.R_mono HO333.out (fun _ hk => ⟨hk.1.1.1.1.2, ⟨hk.1.2, hk.1.1.1.2⟩⟩)⟩, ⟨by (with_reducible repeat (first | apply Kd.R_alloc | apply Kd.R_drewN | apply Kd.R_drew)); exact Kd.R_mono HO342.out (fun _ hk => ⟨hk.1.1.1.1.2, ⟨hk.1.1.1.2, hk.1.2⟩⟩)⟩, ⟨by (with_reducible repeat (first | refine blk_drewN ?_ _ | refine blk_drew ?_ | refine blk_alloc ?_ _)); exact BK325.out⟩, ⟨by repeat (first | (with_reducible first | exact HB.out | apply below_alloc | apply pw_below_drewN | apply below_drew1 | refine below_set ?_ GE325.out) | exact HB.out)⟩⟩
      · replace c25 := Bool.eq_false_iff.mpr c25
        subst c25
        have H1 : (gangerlaw03_RankPuts.j0 k l0 t328 t331 t339 true) = some r := by rw [if_neg (show ¬ (false = true) by decide)] at H; exact H
        clear H
        have H := H1
        clear H1
        have H' := Aside0.mk H
        clear H
        obtain ⟨Ao39, co39, eo39⟩ := Kd.R_slice HO333.out
        subst eo39
        obtain ⟨Ao40, co40, eo40⟩ := Kd.R_slice HO337.out
        subst eo40
        go_wp2_with (first | ((with_reducible refine gate_callee (f := 17) rfl ?_); refine goesL_ (some 49) rfl rfl Try.func17 (by kernel_rfl) rfl #[.slice Ao39 t331.length co39, .slice Ao40 t335.length co40] rfl (by (try simp only [List.map_toArray, List.map_cons, List.map_nil]); first | done | rfl | (simp only [List.length_drop, List.length_take]; rfl)) ?_; (with_reducible refine (gangerref03_Same.calls k _ _ t331 _ _ t335 false _ ?side1 ?side2 ?side3 ?side4 A24.out).mono ?_); (case side1 => repeat (first | exact (Kd.R_reads' HO333.out).2.2 | (with_reducible refine Kd.C_alloc ?_ _) | (with_reducible refine Kd.C_drewN ?_ _) | (with_reducible refine Kd.C_drew ?_))); (case side2 => exact (Kd.R_reads' HO333.out).2.1); (case side3 => repeat (first | exact (Kd.R_reads' HO337.out).2.2 | (with_reducible refine Kd.C_alloc ?_ _) | (with_reducible refine Kd.C_drewN ?_ _) | (with_reducible refine Kd.C_drew ?_))); (case side4 => exact (Kd.R_reads' HO337.out).2.1); rintro e w' ⟨rfl, ⟨nd, rfl⟩⟩; refine ⟨_, rfl, ?_⟩))
        go_meet
        case rel => exact ⟨_, (true), (by first | rfl | (simp; done) | (simp [*]; done)), H', ⟨by first | omega | exact Nat.le_refl _⟩, ⟨by (with_reducible repeat (first | apply Kd.R_alloc | apply Kd.R_drewN | apply Kd.R_drew)); exact Kd.R_mono HO330.out (fun _ hk => ⟨hk.1.1.1.2, ⟨hk.1.2, hk.1.1.1.1.2⟩⟩)⟩, ⟨by (with_reducible repeat (first | apply Kd.R_alloc | apply Kd.R_drewN | apply Kd.R_drew)); exact Kd.R_mono HO333.out (fun _ hk => ⟨hk.1.1.1.1.2, ⟨hk.1.2, hk.1.1.1.2⟩⟩)⟩, ⟨by (with_reducible repeat (first | apply Kd.R_alloc | apply Kd.R_drewN | apply Kd.R_drew)); exact Kd.R_mono HO342.out (fun _ hk => ⟨hk.1.1.1.1.2, ⟨hk.1.1.1.2, hk.1.2⟩⟩)⟩, ⟨by (with_reducible repeat (first | refine blk_drewN ?_ _ | refine blk_drew ?_ | refine blk_alloc ?_ _)); exact BK325.out⟩, ⟨by repeat (first | (with_reducible first | exact HB.out | apply below_alloc | apply pw_below_drewN | apply below_drew1 | refine below_set ?_ GE325.out) | exact HB.out)⟩⟩
    case rest =>
      clear HC14
      try clear c1
      try clear c2
      try clear p2
      try clear c5
      try clear c12
      try clear c13
      try clear c14
      try clear c17
      try clear c18
      try clear c19
      try clear c20
      try clear c21
      try clear c25
      try clear c26
      try clear c26b0
      try clear c26b1
      try clear c28
      try clear hcz17_0
      try clear hcz17_1
      try clear hcz17_2
      try clear hcz20_0
      try clear hcz20_1
      try clear hcz20_2
      try clear hfz17_0
      try clear hfz17_1
      try clear hfz17_2
      try clear hfz20_0
      try clear hfz20_1
      try clear hfz20_2
      obtain ⟨kq, x66_13, rfl, HA, HJ13, HO_7, HO_8, HO_12, BK325, HB⟩ := hcut
      cases kq with
      | zero => exact absurd HA.out (by simp [gangerlaw03_RankPuts.j0])
      | succ kj13 =>
        have H := HA.out
        clear HA
        simp only [gangerlaw03_RankPuts.j0] at H
        by_cases c41 : x66_13 = true
        · subst c41
          have H1 : (some false) = some r := by rw [if_pos rfl] at H; exact H
          clear H
          have H := H1
          clear H1
          obtain rfl := Option.some.inj H
          go_wp2
          go_ret
          exact ⟨by first | rfl | (simp [errW_none, errW_some] <;> rfl) | (simp [*, errW_none, errW_some] <;> rfl), by repeat (first | (with_reducible first | exact HB.out | apply below_alloc | apply pw_below_drewN | apply below_drew1 | refine below_set ?_ GE325.out) | exact HB.out)⟩
        · replace c41 := Bool.eq_false_iff.mpr c41
          subst c41
          have H1 : (gangerlaw03_RankPuts.l0 kj13 l0 t328 t331 t339 0) = some r := by rw [if_neg (show ¬ (false = true) by decide)] at H; exact H
          clear H
          have H := H1
          clear H1
          have H' := Aside0.mk H
          clear H
          go_wp2
          go_loopg [16] kj13 (fun kq v16 w' => ∃ (x8_2 : List (S24)) (x16_2 : Int) (x326000_2 : Int), v16 = .int .i64 x16_2 ∧ Aside0 (gangerlaw03_RankPuts.l0 kq l0 t328 x8_2 t339 x16_2 = some r) ∧ Aside0 (kq ≤ kj13) ∧ Aside0 (Kd.R k24 24 w' w.heap.size (fun k_ => some k_ ≠ (v332 : Value).ownBlock ∧ some k_ ≠ (v341 : Value).ownBlock ∧ k_ ≠ gb325) (.slice Ao18 t328.length co18) t328) ∧ Aside0 (Kd.R k24 24 w' w.heap.size (fun k_ => some k_ ≠ ((.slice Ao18 t328.length co18) : Value).ownBlock ∧ some k_ ≠ (v341 : Value).ownBlock ∧ k_ ≠ gb325) v332 x8_2) ∧ Aside0 (Kd.R k24 24 w' w.heap.size (fun k_ => some k_ ≠ ((.slice Ao18 t328.length co18) : Value).ownBlock ∧ some k_ ≠ (v332 : Value).ownBlock ∧ k_ ≠ gb325) v341 t339) ∧ Aside0 (w'.heap[gb325]? = some (.cells #[.int .i64 x326000_2, .int .i64 a1_1, .int .u32 a1_2] 24 (0, 0))) ∧ Aside0 (Below w.heap.size w w'))
          case atStart => exact ⟨(t331), (0), (a1_0), (by first | rfl | (simp; done) | (simp [*]; done)), H', ⟨Nat.le_refl _⟩, ⟨by (with_reducible repeat (first | apply Kd.R_alloc | apply Kd.R_drewN | apply Kd.R_drew)); exact HO_7.out⟩, ⟨by (with_reducible repeat (first | apply Kd.R_alloc | apply Kd.R_drewN | apply Kd.R_drew)); exact HO_8.out⟩, ⟨by (with_reducible repeat (first | apply Kd.R_alloc | apply Kd.R_drewN | apply Kd.R_drew)); exact HO_12.out⟩, ⟨by (with_reducible repeat (first | refine blk_drewN ?_ _ | refine blk_drew ?_ | refine blk_alloc ?_ _)); exact BK325.out⟩, ⟨by repeat (first | (with_reducible first | exact HB.out | apply below_alloc | apply pw_below_drewN | apply below_drew1 | refine below_set ?_ GE325.out) | exact HB.out)⟩⟩
          case round =>
            clear H'
            try clear c1
            try clear c2
            try clear p2
            try clear c4
            try clear c5
            try clear c12
            try clear c13
            try clear c14
            try clear c17
            try clear c18
            try clear c19
            try clear c20
            try clear c21
            try clear c25
            try clear c26
            try clear c26b0
            try clear c26b1
            try clear c28
            try clear c41
            try clear hcz17_0
            try clear hcz17_1
            try clear hcz17_2
            try clear hcz20_0
            try clear hcz20_1
            try clear hcz20_2
            try clear hfz17_0
            try clear hfz17_1
            try clear hfz17_2
            try clear hfz20_0
            try clear hfz20_1
            try clear hfz20_2
            try clear p2
            obtain ⟨x8_2, x16_2, x326000_2, rfl, HA, HK2, HO_7, HO_8, HO_12, BK325, HB⟩ := hrel
            cases gk with
            | zero => exact absurd HA.out (by simp [gangerlaw03_RankPuts.l0])
            | succ k2 =>
              have H := HA.out
              clear HA
              simp only [gangerlaw03_RankPuts.l0] at H
              by_cases c42 : x16_2 < (x8_2.length : Int)
              · rw [if_pos c42] at H
                have c42b0 : decide (x16_2 < (x8_2.length : Int)) = true := decide_eq_true c42
                clear c42
                by_cases c43 : 0 ≤ x16_2
                · rw [if_pos c43] at H
                  have c43b0 : decide (0 ≤ x16_2) = true := decide_eq_true c43
                  clear c43
                  obtain ⟨y349, hy349⟩ : ∃ y_ : List (S24), y_ = (x8_2.set (x16_2 : Int).toNat (⟨7, (rd_T24 x8_2 x16_2).f1, (rd_T24 x8_2 x16_2).f2⟩ : S24)) := ⟨_, rfl⟩
                  replace H : (gangerlaw03_RankPuts.l0 k2 l0 t328 y349 t339 (wrap64 (x16_2 + 1))) = some r := by first | (rw [hy349]; with_reducible exact H) | (have H2_ := (Option.bind_some _ _).symm.trans H; rw [hy349]; with_reducible exact H2_) | (have H2_ := (Option.bind_some _ _).symm.trans H; with_reducible exact H2_) | with_reducible exact H | (rw [hy349]; exact H) | exact H
                  have Ny349 := Aside0.mk hy349
                  clear hy349
                  have H' := Aside0.mk H
                  clear H
                  obtain ⟨Ao45, co45, eo45⟩ := Kd.R_slice HO_8.out
                  subst eo45
                  have p44 : 0 ≤ (x16_2 : Int) := of_decide_eq_true (by first | (with_reducible assumption) | assumption)
                  have q44 : (x16_2 : Int) < ((x8_2.length : Int) : Int) := of_decide_eq_true (by first | (with_reducible assumption) | assumption)
                  obtain ⟨go44, co44, eo44, gb44, gl44, cl44, HG44⟩ := Kd.R_form HO_8.out (by omega)
                  (first | cases eo44 | (injection eo44 with ea_ en_ ec_; (first | subst ea_ | (injection ea_ with ea_; subst ea_)); subst ec_; clear en_))
                  have GB44 := Aside0.mk gb44
                  have GG44 := Aside0.mk HG44
                  clear gb44 gl44 HG44
                  obtain ⟨ce44, hcl44, hM44, hcc44, hfr44⟩ := Kd.R_elem HO_8.out z24 (x16_2 : Int) p44 q44
                  obtain rfl := k24_openM hM44
                  have hx44_0 : wr.cell? ⟨go44, (x16_2 : Int).toNat * 3, none⟩ = some (.int .i64 ((rd_T24 x8_2 x16_2).f0)) := hcc44 0 _ rfl
                  have hx44_1 : wr.cell? ⟨go44, (x16_2 : Int).toNat * 3 + 1, none⟩ = some (.int .i64 ((rd_T24 x8_2 x16_2).f1)) := hcc44 1 _ rfl
                  have hx44_2 : wr.cell? ⟨go44, (x16_2 : Int).toNat * 3 + 2, none⟩ = some (.int .u32 ((rd_T24 x8_2 x16_2).f2)) := hcc44 2 _ rfl
                  have hf44_0 : wr.frozen? ⟨go44, (x16_2 : Int).toNat * 3, none⟩ = false := hfr44 0
                  have hf44_1 : wr.frozen? ⟨go44, (x16_2 : Int).toNat * 3 + 1, none⟩ = false := hfr44 1
                  have hf44_2 : wr.frozen? ⟨go44, (x16_2 : Int).toNat * 3 + 2, none⟩ = false := hfr44 2
                  clear hcl44 hcc44 hfr44 hM44
                  replace p44 := eq_true p44
                  replace q44 := eq_true q44
                  have HX46 := Aside0.mk (show Kd.R k24 24 wr w.heap.size (fun k_ => some k_ ≠ (.slice Ao18 t328.length co18 : Value).ownBlock ∧ some k_ ≠ (v341 : Value).ownBlock ∧ k_ ≠ gb325) (.slice (some ⟨go44, 0, none⟩) x8_2.length co45) x8_2 from (by (with_reducible repeat (first | apply Kd.R_alloc | apply Kd.R_drewN | apply Kd.R_drew)); exact HO_8.out))
                  obtain ⟨ce46, hcl46, hM46, hcc46, hfr46⟩ := Kd.R_elem HX46.out z24 (x16_2 : Int) (of_decide_eq_true (by first | (with_reducible assumption) | assumption)) (by have h_ : (x16_2 : Int) < ((x8_2.length : Int) : Int) := of_decide_eq_true (by first | (with_reducible assumption) | assumption); first | exact h_ | (have e_ := (Kd.R_reads' HO_8.out).1; omega) | simpa using h_)
                  obtain rfl := k24_openM hM46
                  have HP46 := Kd.R_seg HX46.out (x16_2 : Int) (of_decide_eq_true (by first | (with_reducible assumption) | assumption)) (by have h_ : (x16_2 : Int) < ((x8_2.length : Int) : Int) := of_decide_eq_true (by first | (with_reducible assumption) | assumption); first | exact h_ | (have e_ := (Kd.R_reads' HO_8.out).1; omega) | simpa using h_) (seg := [.int .i64 7]) (j := 0) hcl46 hcc46 (show 1 ≤ 3 from by decide) (x' := (⟨7, (rd_T24 x8_2 x16_2).f1, (rd_T24 x8_2 x16_2).f2⟩ : S24)) (k24_mkM _ _ _ (⟨7, (rd_T24 x8_2 x16_2).f1, (rd_T24 x8_2 x16_2).f2⟩ : S24) ) (fun _ hk => hk)
                  have hx46_0 := hcc46 0 _ rfl
                  (try simp only [show (k24).sz = 3 from rfl, Nat.mul_one, Nat.add_zero] at hx46_0)
                  have hf46_0 := hfr46 0
                  (try simp only [show (k24).sz = 3 from rfl, Nat.mul_one, Nat.add_zero] at hf46_0)
                  clear hcl46 hcc46 hfr46 hM46
                  go_wp2_with (first | ((with_reducible refine gate_store (t := 3) (p := 76) rfl ?_); refine store_event (t := 3) (p := 76) (v := ?vo_w47) (w1 := (wr.setCell ⟨go44, (x16_2 : Int).toNat * 3, none⟩ (.int .i64 7))) ?hg ?ho ?hn ?hr ?_; (case ho => rfl); (case hg => rfl); (case hn => rfl); (case hr => first | (go_simp; done) | (go_simp; rfl)); intro w47 hw; have hg : wr.grownBy w47 (some go44) := (by rw [hw]; exact HP46.2); have hp_ : Kd.R k24 24 w47 w.heap.size (fun k_ => some k_ ≠ (.slice Ao18 t328.length co18 : Value).ownBlock ∧ some k_ ≠ (v341 : Value).ownBlock ∧ k_ ≠ gb325) (.slice (some ⟨go44, 0, none⟩) x8_2.length co45) y349 := (by rw [hw, Ny349.out]; exact HP46.1); clear HP46; have n0_ := Aside0.mk (Kd.R_after (v := (.slice (some ⟨go44, 0, none⟩) x8_2.length co45)) (v1 := (.slice (some ⟨go44, 0, none⟩) x8_2.length co45)) (ok := (fun k_ => some k_ ≠ (v341 : Value).ownBlock ∧ k_ ≠ gb325)) (by (with_reducible repeat (first | apply Kd.R_alloc | apply Kd.R_drewN | apply Kd.R_drew)); exact Kd.R_mono HO_7.out (fun _ hk => ⟨⟨hk.2.1, hk.2.2⟩, hk.1⟩)) hg (.inl rfl)); have n1_ := Aside0.mk (hp_); have n2_ := Aside0.mk (Kd.R_after (v := (.slice (some ⟨go44, 0, none⟩) x8_2.length co45)) (v1 := (.slice (some ⟨go44, 0, none⟩) x8_2.length co45)) (ok := (fun k_ => some k_ ≠ (.slice Ao18 t328.length co18 : Value).ownBlock ∧ k_ ≠ gb325)) (by (with_reducible repeat (first | apply Kd.R_alloc | apply Kd.R_drewN | apply Kd.R_drew)); exact Kd.R_mono HO_12.out (fun _ hk => ⟨⟨hk.1, hk.2.2⟩, hk.2.1⟩)) hg (.inl rfl)); have n3_ := Aside0.mk (blk_grown (g := gb325) (o := .cells #[.int .i64 x326000_2, .int .i64 a1_1, .int .u32 a1_2] 24 (0, 0)) (by (with_reducible repeat (first | refine blk_drewN ?_ _ | refine blk_drew ?_ | refine blk_alloc ?_ _)); exact BK325.out) hg (Kd.R_away HO_8.out (fun _ hk => hk.2.2))); have n4_ := Aside0.mk ((by rw [hw]; exact below_set (HB.out) GB44.out : Below w.heap.size w w47)); clear HO_7; clear HO_8; clear HO_12; clear BK325; clear HB; have HO_7 := n0_; have HO_8 := n1_; have HO_12 := n2_; have BK325 := n3_; have HB := n4_; clear n0_ n1_ n2_ n3_ n4_; clear hg hw hp_))
                  go_roundg k2
                  case measure => have := HJ13.out; have := HK2.out; omega
                  case rel => exact ⟨(y349), (wrap64 (x16_2 + 1)), (x326000_2), (by first | rfl | (simp; done) | (simp [*]; done)), H', ⟨by have := HJ13.out; have := HK2.out; omega⟩, ⟨by (with_reducible repeat (first | apply Kd.R_alloc | apply Kd.R_drewN | apply Kd.R_drew)); exact Kd.R_mono HO_7.out (fun _ hk => ⟨hk.2, ⟨hk.1.1, hk.1.2⟩⟩)⟩, ⟨by (with_reducible repeat (first | apply Kd.R_alloc | apply Kd.R_drewN | apply Kd.R_drew)); exact HO_8.out⟩, ⟨by (with_reducible repeat (first | apply Kd.R_alloc | apply Kd.R_drewN | apply Kd.R_drew)); exact Kd.R_mono HO_12.out (fun _ hk => ⟨hk.1.1, ⟨hk.2, hk.1.2⟩⟩)⟩, ⟨by (with_reducible repeat (first | refine blk_drewN ?_ _ | refine blk_drew ?_ | refine blk_alloc ?_ _)); exact BK325.out⟩, ⟨by repeat (first | (with_reducible first | exact HB.out | apply below_alloc | apply pw_below_drewN | apply below_drew1 | refine below_set ?_ GE325.out) | exact HB.out)⟩⟩
                · rw [if_neg c43] at H
                  exact absurd H (by simp)
              · rw [if_neg c42] at H
                have c42b0 : decide (x16_2 < (x8_2.length : Int)) = false := decide_eq_false c42
                clear c42
                have H' := Aside0.mk H
                clear H
                obtain ⟨Ao48, co48, eo48⟩ := Kd.R_slice HO_8.out
                subst eo48
                go_wp2
                go_loopg [17] k2 (fun kq v17 w' => ∃ (x12_3 : List (S24)) (x17_3 : Int) (x326000_3 : Int), v17 = .int .i64 x17_3 ∧ Aside0 (gangerlaw03_RankPuts.l1 kq l0 t328 x12_3 x17_3 = some r) ∧ Aside0 (kq ≤ k2) ∧ Aside0 (Kd.R k24 24 w' w.heap.size (fun k_ => some k_ ≠ (v341 : Value).ownBlock ∧ k_ ≠ gb325) (.slice Ao18 t328.length co18) t328) ∧ Aside0 (Kd.R k24 24 w' w.heap.size (fun k_ => some k_ ≠ ((.slice Ao18 t328.length co18) : Value).ownBlock ∧ k_ ≠ gb325) v341 x12_3) ∧ Aside0 (w'.heap[gb325]? = some (.cells #[.int .i64 x326000_3, .int .i64 a1_1, .int .u32 a1_2] 24 (0, 0))) ∧ Aside0 (Below w.heap.size w w'))
                case atStart => exact ⟨(t339), (0), (x326000_2), (by first | rfl | (simp; done) | (simp [*]; done)), H', ⟨Nat.le_refl _⟩, ⟨by (with_reducible repeat (first | apply Kd.R_alloc | apply Kd.R_drewN | apply Kd.R_drew)); exact Kd.R_mono HO_7.out (fun _ hk => ⟨hk.2.1, hk.2.2⟩)⟩, ⟨by (with_reducible repeat (first | apply Kd.R_alloc | apply Kd.R_drewN | apply Kd.R_drew)); exact Kd.R_mono HO_12.out (fun _ hk => ⟨hk.1, hk.2.2⟩)⟩, ⟨by (with_reducible repeat (first | refine blk_drewN ?_ _ | refine blk_drew ?_ | refine blk_alloc ?_ _)); exact BK325.out⟩, ⟨by repeat (first | (with_reducible first | exact HB.out | apply below_alloc | apply pw_below_drewN | apply below_drew1 | refine below_set ?_ GE325.out) | exact HB.out)⟩⟩
                case round =>
                  clear H'
                  try clear c1
                  try clear c2
                  try clear p2
                  try clear c4
                  try clear p4
                  try clear q4
                  try clear hx4
                  try clear hf4
                  try clear c5
                  try clear p6
                  try clear c12
                  try clear c13
                  try clear c14
                  try clear c17
                  try clear c18
                  try clear c19
                  try clear c20
                  try clear c21
                  try clear c25
                  try clear c26
                  try clear c26b0
                  try clear c26b1
                  try clear c28
                  try clear c41
                  try clear c42
                  try clear c42b0
                  try clear c43
                  try clear c43b0
                  try clear c44
                  try clear p44
                  try clear q44
                  try clear hx44
                  try clear hf44
                  try clear c46
                  try clear hx46
                  try clear hf46
                  try clear hcz17_0
                  try clear hcz17_1
                  try clear hcz17_2
                  try clear hcz20_0
                  try clear hcz20_1
                  try clear hcz20_2
                  try clear hfz17_0
                  try clear hfz17_1
                  try clear hfz17_2
                  try clear hfz20_0
                  try clear hfz20_1
                  try clear hfz20_2
                  try clear hx44_0
                  try clear hx44_1
                  try clear hx44_2
                  try clear hx46_0
                  try clear p2
                  try clear p44
                  try clear q44
                  obtain ⟨x12_3, x17_3, x326000_3, rfl, HA, HK3, HO_7, HO_12, BK325, HB⟩ := hrel
                  cases gk with
                  | zero => exact absurd HA.out (by simp [gangerlaw03_RankPuts.l1])
                  | succ k3 =>
                    have H := HA.out
                    clear HA
                    simp only [gangerlaw03_RankPuts.l1] at H
                    by_cases c49 : x17_3 < (x12_3.length : Int)
                    · rw [if_pos c49] at H
                      have c49b0 : decide (x17_3 < (x12_3.length : Int)) = true := decide_eq_true c49
                      clear c49
                      by_cases c50 : 0 ≤ x17_3
                      · rw [if_pos c50] at H
                        have c50b0 : decide (0 ≤ x17_3) = true := decide_eq_true c50
                        clear c50
                        obtain ⟨y350, hy350⟩ : ∃ y_ : List (S24), y_ = (x12_3.set (x17_3 : Int).toNat (⟨8, (rd_T24 x12_3 x17_3).f1, (rd_T24 x12_3 x17_3).f2⟩ : S24)) := ⟨_, rfl⟩
                        replace H : (gangerlaw03_RankPuts.l1 k3 l0 t328 y350 (wrap64 (x17_3 + 1))) = some r := by first | (rw [hy350]; with_reducible exact H) | (have H2_ := (Option.bind_some _ _).symm.trans H; rw [hy350]; with_reducible exact H2_) | (have H2_ := (Option.bind_some _ _).symm.trans H; with_reducible exact H2_) | with_reducible exact H | (rw [hy350]; exact H) | exact H
                        have Ny350 := Aside0.mk hy350
                        clear hy350
                        have H' := Aside0.mk H
                        clear H
                        obtain ⟨Ao52, co52, eo52⟩ := Kd.R_slice HO_12.out
                        subst eo52
                        have p51 : 0 ≤ (x17_3 : Int) := of_decide_eq_true (by first | (with_reducible assumption) | assumption)
                        have q51 : (x17_3 : Int) < ((x12_3.length : Int) : Int) := of_decide_eq_true (by first | (with_reducible assumption) | assumption)
                        obtain ⟨go51, co51, eo51, gb51, gl51, cl51, HG51⟩ := Kd.R_form HO_12.out (by omega)
                        (first | cases eo51 | (injection eo51 with ea_ en_ ec_; (first | subst ea_ | (injection ea_ with ea_; subst ea_)); subst ec_; clear en_))
                        have GB51 := Aside0.mk gb51
                        have GG51 := Aside0.mk HG51
                        clear gb51 gl51 HG51
                        obtain ⟨ce51, hcl51, hM51, hcc51, hfr51⟩ := Kd.R_elem HO_12.out z24 (x17_3 : Int) p51 q51
                        obtain rfl := k24_openM hM51
                        have hx51_0 : wr.cell? ⟨go51, (x17_3 : Int).toNat * 3, none⟩ = some (.int .i64 ((rd_T24 x12_3 x17_3).f0)) := hcc51 0 _ rfl
                        have hx51_1 : wr.cell? ⟨go51, (x17_3 : Int).toNat * 3 + 1, none⟩ = some (.int .i64 ((rd_T24 x12_3 x17_3).f1)) := hcc51 1 _ rfl
                        have hx51_2 : wr.cell? ⟨go51, (x17_3 : Int).toNat * 3 + 2, none⟩ = some (.int .u32 ((rd_T24 x12_3 x17_3).f2)) := hcc51 2 _ rfl
                        have hf51_0 : wr.frozen? ⟨go51, (x17_3 : Int).toNat * 3, none⟩ = false := hfr51 0
                        have hf51_1 : wr.frozen? ⟨go51, (x17_3 : Int).toNat * 3 + 1, none⟩ = false := hfr51 1
                        have hf51_2 : wr.frozen? ⟨go51, (x17_3 : Int).toNat * 3 + 2, none⟩ = false := hfr51 2
                        clear hcl51 hcc51 hfr51 hM51
                        replace p51 := eq_true p51
                        replace q51 := eq_true q51
                        have HX53 := Aside0.mk (show Kd.R k24 24 wr w.heap.size (fun k_ => some k_ ≠ (.slice Ao18 t328.length co18 : Value).ownBlock ∧ k_ ≠ gb325) (.slice (some ⟨go51, 0, none⟩) x12_3.length co52) x12_3 from (by (with_reducible repeat (first | apply Kd.R_alloc | apply Kd.R_drewN | apply Kd.R_drew)); exact HO_12.out))
                        obtain ⟨ce53, hcl53, hM53, hcc53, hfr53⟩ := Kd.R_elem HX53.out z24 (x17_3 : Int) (of_decide_eq_true (by first | (with_reducible assumption) | assumption)) (by have h_ : (x17_3 : Int) < ((x12_3.length : Int) : Int) := of_decide_eq_true (by first | (with_reducible assumption) | assumption); first | exact h_ | (have e_ := (Kd.R_reads' HO_12.out).1; omega) | simpa using h_)
                        obtain rfl := k24_openM hM53
                        have HP53 := Kd.R_seg HX53.out (x17_3 : Int) (of_decide_eq_true (by first | (with_reducible assumption) | assumption)) (by have h_ : (x17_3 : Int) < ((x12_3.length : Int) : Int) := of_decide_eq_true (by first | (with_reducible assumption) | assumption); first | exact h_ | (have e_ := (Kd.R_reads' HO_12.out).1; omega) | simpa using h_) (seg := [.int .i64 8]) (j := 0) hcl53 hcc53 (show 1 ≤ 3 from by decide) (x' := (⟨8, (rd_T24 x12_3 x17_3).f1, (rd_T24 x12_3 x17_3).f2⟩ : S24)) (k24_mkM _ _ _ (⟨8, (rd_T24 x12_3 x17_3).f1, (rd_T24 x12_3 x17_3).f2⟩ : S24) ) (fun _ hk => hk)
                        have hx53_0 := hcc53 0 _ rfl
                        (try simp only [show (k24).sz = 3 from rfl, Nat.mul_one, Nat.add_zero] at hx53_0)
                        have hf53_0 := hfr53 0
                        (try simp only [show (k24).sz = 3 from rfl, Nat.mul_one, Nat.add_zero] at hf53_0)
                        clear hcl53 hcc53 hfr53 hM53
                        go_wp2_with (first | ((with_reducible refine gate_store (t := 3) (p := 86) rfl ?_); refine store_event (t := 3) (p := 86) (v := ?vo_w54) (w1 := (wr.setCell ⟨go51, (x17_3 : Int).toNat * 3, none⟩ (.int .i64 8))) ?hg ?ho ?hn ?hr ?_; (case ho => rfl); (case hg => rfl); (case hn => rfl); (case hr => first | (go_simp; done) | (go_simp; rfl)); intro w54 hw; have hg : wr.grownBy w54 (some go51) := (by rw [hw]; exact HP53.2); have hp_ : Kd.R k24 24 w54 w.heap.size (fun k_ => some k_ ≠ (.slice Ao18 t328.length co18 : Value).ownBlock ∧ k_ ≠ gb325) (.slice (some ⟨go51, 0, none⟩) x12_3.length co52) y350 := (by rw [hw, Ny350.out]; exact HP53.1); clear HP53; have n0_ := Aside0.mk (Kd.R_after (v := (.slice (some ⟨go51, 0, none⟩) x12_3.length co52)) (v1 := (.slice (some ⟨go51, 0, none⟩) x12_3.length co52)) (ok := (fun k_ => k_ ≠ gb325)) (by (with_reducible repeat (first | apply Kd.R_alloc | apply Kd.R_drewN | apply Kd.R_drew)); exact Kd.R_mono HO_7.out (fun _ hk => ⟨hk.2, hk.1⟩)) hg (.inl rfl)); have n1_ := Aside0.mk (hp_); have n2_ := Aside0.mk (blk_grown (g := gb325) (o := .cells #[.int .i64 x326000_3, .int .i64 a1_1, .int .u32 a1_2] 24 (0, 0)) (by (with_reducible repeat (first | refine blk_drewN ?_ _ | refine blk_drew ?_ | refine blk_alloc ?_ _)); exact BK325.out) hg (Kd.R_away HO_12.out (fun _ hk => hk.2))); have n3_ := Aside0.mk ((by rw [hw]; exact below_set (HB.out) GB51.out : Below w.heap.size w w54)); clear HO_7; clear HO_12; clear BK325; clear HB; have HO_7 := n0_; have HO_12 := n1_; have BK325 := n2_; have HB := n3_; clear n0_ n1_ n2_ n3_; clear hg hw hp_))
                        go_roundg k3
                        case measure => have := HJ13.out; have := HK2.out; have := HK3.out; omega
                        case rel => exact ⟨(y350), (wrap64 (x17_3 + 1)), (x326000_3), (by first | rfl | (simp; done) | (simp [*]; done)), H', ⟨by have := HJ13.out; have := HK2.out; have := HK3.out; omega⟩, ⟨by (with_reducible repeat (first | apply Kd.R_alloc | apply Kd.R_drewN | apply Kd.R_drew)); exact Kd.R_mono HO_7.out (fun _ hk => ⟨hk.2, hk.1⟩)⟩, ⟨by (with_reducible repeat (first | apply Kd.R_alloc | apply Kd.R_drewN | apply Kd.R_drew)); exact HO_12.out⟩, ⟨by (with_reducible repeat (first | refine blk_drewN ?_ _ | refine blk_drew ?_ | refine blk_alloc ?_ _)); exact BK325.out⟩, ⟨by repeat (first | (with_reducible first | exact HB.out | apply below_alloc | apply pw_below_drewN | apply below_drew1 | refine below_set ?_ GE325.out) | exact HB.out)⟩⟩
                      · rw [if_neg c50] at H
                        exact absurd H (by simp)
                    · rw [if_neg c49] at H
                      have c49b0 : decide (x17_3 < (x12_3.length : Int)) = false := decide_eq_false c49
                      clear c49
                      replace H := Option.bind_eq_some_iff.mp H
                      obtain ⟨t351, A550, H⟩ := H
                      replace H : (if t351 = true then ((gangerlaw03_known.f k3).bind fun t352 => (some t352)) else (some false)) = some r := H
                      have A55 := Aside0.mk A550
                      clear A550
                      by_cases c56 : t351 = true
                      · subst c56
                        have H1 : ((gangerlaw03_known.f k3).bind fun t352 => (some t352)) = some r := by rw [if_pos rfl] at H; exact H
                        clear H
                        have H := H1
                        clear H1
                        replace H := Option.bind_eq_some_iff.mp H
                        obtain ⟨t352, A570, H⟩ := H
                        replace H : (some t352) = some r := H
                        have A57 := Aside0.mk A570
                        clear A570
                        obtain rfl := Option.some.inj H
                        obtain ⟨Ao58, co58, eo58⟩ := Kd.R_slice HO_12.out
                        subst eo58
                        go_wp2_with (first | ((with_reducible refine gate_callee (f := 17) rfl ?_); refine goesL_ (some 89) rfl rfl Try.func17 (by kernel_rfl) rfl #[.slice Ao18 t328.length co18, .slice A0 l0.length c0] rfl (by (try simp only [List.map_toArray, List.map_cons, List.map_nil]); first | done | rfl | (simp only [List.length_drop, List.length_take]; rfl)) ?_; (with_reducible refine (gangerref03_Same.calls k3 _ _ t328 _ _ l0 true _ ?side1 ?side2 ?side3 ?side4 A55.out).mono ?_); (case side1 => repeat (first | exact (Kd.R_reads' HO_7.out).2.2 | (with_reducible refine Kd.C_alloc ?_ _) | (with_reducible refine Kd.C_drewN ?_ _) | (with_reducible refine Kd.C_drew ?_))); (case side2 => exact (Kd.R_reads' HO_7.out).2.1); (case side3 => repeat (first | exact (Kd.C_below HR0.out HB.out) | (with_reducible refine Kd.C_alloc ?_ _) | (with_reducible refine Kd.C_drewN ?_ _) | (with_reducible refine Kd.C_drew ?_))); (case side4 => exact HC0.out); rintro e w' ⟨rfl, ⟨nd, rfl⟩⟩; refine ⟨_, rfl, ?_⟩) | (go_at_call 12; (with_reducible refine (gangerlaw03_known.calls k3  t352 _ A57.out).mono ?_); rintro e w59 ⟨rfl, hb⟩; have n0_ := Aside0.mk (Kd.R_below (by (with_reducible repeat (first | apply Kd.R_alloc | apply Kd.R_drewN | apply Kd.R_drew)); exact HO_7.out) hb); have n1_ := Aside0.mk (Kd.R_below (by (with_reducible repeat (first | apply Kd.R_alloc | apply Kd.R_drewN | apply Kd.R_drew)); exact HO_12.out) hb); have n2_ := Aside0.mk (blk_below (g := gb325) (o := .cells #[.int .i64 x326000_3, .int .i64 a1_1, .int .u32 a1_2] 24 (0, 0)) (by (with_reducible repeat (first | refine blk_drewN ?_ _ | refine blk_drew ?_ | refine blk_alloc ?_ _)); exact BK325.out) hb); have n3_ := Aside0.mk (below_step (by repeat (first | (with_reducible first | exact HB.out | apply below_alloc | apply pw_below_drewN | apply below_drew1 | refine below_set ?_ GE325.out) | exact HB.out)) hb); clear HO_7; clear HO_12; clear BK325; clear HB; have HO_7 := n0_; have HO_12 := n1_; have BK325 := n2_; have HB := n3_; clear n0_ n1_ n2_ n3_; (try clear hb); (try clear hb2); (try clear hk); (try clear hi)))
                        go_ret
                        exact ⟨by first | rfl | (simp [errW_none, errW_some] <;> rfl) | (simp [*, errW_none, errW_some] <;> rfl), by repeat (first | (with_reducible first | exact HB.out | apply below_alloc | apply pw_below_drewN | apply below_drew1 | refine below_set ?_ GE325.out) | exact HB.out)⟩
                      · replace c56 := Bool.eq_false_iff.mpr c56
                        subst c56
                        have H1 : (some false) = some r := by rw [if_neg (show ¬ (false = true) by decide)] at H; exact H
                        clear H
                        have H := H1
                        clear H1
                        obtain rfl := Option.some.inj H
                        obtain ⟨Ao60, co60, eo60⟩ := Kd.R_slice HO_12.out
                        subst eo60
                        go_wp2_with (first | ((with_reducible refine gate_callee (f := 17) rfl ?_); refine goesL_ (some 89) rfl rfl Try.func17 (by kernel_rfl) rfl #[.slice Ao18 t328.length co18, .slice A0 l0.length c0] rfl (by (try simp only [List.map_toArray, List.map_cons, List.map_nil]); first | done | rfl | (simp only [List.length_drop, List.length_take]; rfl)) ?_; (with_reducible refine (gangerref03_Same.calls k3 _ _ t328 _ _ l0 false _ ?side1 ?side2 ?side3 ?side4 A55.out).mono ?_); (case side1 => repeat (first | exact (Kd.R_reads' HO_7.out).2.2 | (with_reducible refine Kd.C_alloc ?_ _) | (with_reducible refine Kd.C_drewN ?_ _) | (with_reducible refine Kd.C_drew ?_))); (case side2 => exact (Kd.R_reads' HO_7.out).2.1); (case side3 => repeat (first | exact (Kd.C_below HR0.out HB.out) | (with_reducible refine Kd.C_alloc ?_ _) | (with_reducible refine Kd.C_drewN ?_ _) | (with_reducible refine Kd.C_drew ?_))); (case side4 => exact HC0.out); rintro e w' ⟨rfl, ⟨nd, rfl⟩⟩; refine ⟨_, rfl, ?_⟩))
                        go_ret
                        exact ⟨by first | rfl | (simp [errW_none, errW_some] <;> rfl) | (simp [*, errW_none, errW_some] <;> rfl), by repeat (first | (with_reducible first | exact HB.out | apply below_alloc | apply pw_below_drewN | apply below_drew1 | refine below_set ?_ GE325.out) | exact HB.out)⟩

end Go.Proofs.Ytbljhjgmpldncaa.PR
