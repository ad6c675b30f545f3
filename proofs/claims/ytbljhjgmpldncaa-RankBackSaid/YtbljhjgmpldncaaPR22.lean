/- Contracts of the program's functions, one plain Lean function for each, written by a program of this session's over the kit's print; Lean checks every line. -/
import Derived.Test.YtbljhjgmpldncaaPR0
import Derived.Test.YtbljhjgmpldncaaPR9
import Derived.Test.YtbljhjgmpldncaaPR12
import Derived.Test.YtbljhjgmpldncaaPR19
import Derived.Test.YtbljhjgmpldncaaPR20
import Derived.Test.YtbljhjgmpldncaaPR21
namespace Go.Proofs.Ytbljhjgmpldncaa.PR
open Go.RowKit Go.Proofs.YtbljhjgmpldncaaW.PrintWords Go.Proofs.YtbljhjgmpldncaaW.PrintLast Go.Proofs.YtbljhjgmpldncaaW.PrintMore
attribute [local go_sem] max2_int min2_int max_two min_two max_three min_three max_four min_four   -- for this text's walks alone
set_option linter.unusedVariables false
set_option linter.unusedSimpArgs false

/-! ### rank_Put: function 18: by hand -/
def rank_Put.f (k : Nat) (l0 : List S24) (a1_0 : Int) (a1_1 : Int) (a1_2 : Int) : Option (List S24 × Int) := (rank_Check.f k l0).bind fun t => if t = 0 then (if l0.any (fun x => x.f2 == a1_2) = true then some ([], 30) else (api_Key_33.f k l0 a1_0 a1_1 a1_2).bind fun b => if 0 ≤ b.1 ∧ b.1 ≤ (l0.length : Int) ∧ l0.length + 1 < 5864062014805 then some (l0.take b.1.toNat ++ ⟨a1_0, a1_1, a1_2⟩ :: l0.drop b.1.toNat, 0) else none) else some ([], t)
theorem rank_Put.mono (l0 : List S24) (a1_0 : Int) (a1_1 : Int) (a1_2 : Int) (k : Nat) : LeO (rank_Put.f k l0 a1_0 a1_1 a1_2) (rank_Put.f (k + 1) l0 a1_0 a1_1 a1_2) := by
  unfold rank_Put.f
  refine LeO.bind (rank_Check.mono _ _) (fun _ => LeO.ite (LeO.ite (LeO.refl _) (LeO.bind (api_Key_33.mono _ _ _ _ _) (fun _ => LeO.refl _))) (LeO.refl _))
theorem enters32 : ∀ args w, (callFunc 32 args).run Try.prog w = .ok (.enter 32 args) w := enters_of Try.func32 (by kernel_rfl) rfl
set_option maxHeartbeats 2000000 in
set_option maxRecDepth 100000 in
theorem rank_Put.calls (k : Nat) (A0 : Option Addr) (c0 : Nat) (l0 : List S24) (a1_0 : Int) (a1_1 : Int) (a1_2 : Int) (r1 : List S24) (r2 : Int) (w : World) (hr0 : Kd.C k24 w A0 l0.length l0) (hc0 : l0.length ≤ c0) (h : rank_Put.f k l0 a1_0 a1_1 a1_2 = some (r1, r2)) :
    Calls Try.prog 18 #[.slice A0 l0.length c0, .agg #[.int .i64 a1_0, .int .i64 a1_1, .int .u32 a1_2]] w fun e w' => ∃ v0_ : Value, e = .returned (.tuple #[v0_, .int .i64 r2]) ∧ Kd.R k24 24 w' w.heap.size (fun _ => True) v0_ r1 ∧ Below w.heap.size w w' := by
  unfold rank_Put.f at h
  obtain ⟨t, ht, h⟩ := Option.bind_eq_some_iff.1 h
  have HT := Aside0.mk ht
  have HR0 := Aside0.mk hr0
  have HC0 := Aside0.mk hc0
  have hu24 := Try.underlying24
  clear ht hr0 hc0
  by_cases h0 : t = 0
  · rw [if_pos h0] at h
    subst h0
    have HI := Aside0.mk h
    clear h
    go_enter Try.func18, Try.ntmps18
    go_wp2_with fail
    obtain ⟨wb, hwb⟩ : ∃ wb, wb = w.alloc (.cells #[.int .i64 a1_0, .int .i64 a1_1, .int .u32 a1_2] 24) := ⟨_, rfl⟩
    have HBX := Aside0.mk (show wb.heap[w.heap.size]? = some (.cells #[.int .i64 a1_0, .int .i64 a1_1, .int .u32 a1_2] 24 (0, 0)) by rw [hwb]; exact heap_alloc_new w _)
    have HB0 := Aside0.mk (show Below w.heap.size w wb by rw [hwb]; exact below_alloc (Below.refl _ _) _)
    rw [← hwb]
    clear hwb
    refine (rank_Check.calls k A0 c0 l0 0 _ (Kd.C_below HR0.out HB0.out) HC0.out HT.out).mono ?_
    rintro e w1 ⟨rfl, hb⟩
    have HB1 := Aside0.mk (below_step HB0.out hb)
    have HBX1 := Aside0.mk ((hb.block w.heap.size (Array.getElem?_eq_some_iff.1 HBX.out).1).trans HBX.out)
    clear hb HBX HB0
    go_wp2_with fail
    refine (containsFunc_calls 32 #[.pointer (some ⟨w.heap.size, 0, none⟩)] (fun x => x.f2 == a1_2) A0 c0 l0 w1 enters32 (Kd.C_below HR0.out HB1.out) (put1_on w.heap.size a1_0 a1_1 a1_2 w1 HBX1.out)).mono ?_
    rintro e w2 ⟨rfl, hb⟩
    have HB2 := Aside0.mk (below_step HB1.out hb)
    have HBX2 := Aside0.mk ((hb.block w.heap.size (Array.getElem?_eq_some_iff.1 HBX1.out).1).trans HBX1.out)
    clear hb HB1 HBX1
    cases hany : l0.any (fun x => x.f2 == a1_2) with
    | true =>
      have hI := HI.out
      rw [hany, if_pos rfl] at hI
      simp only [Option.some.injEq, Prod.mk.injEq] at hI
      obtain ⟨rfl, rfl⟩ := hI
      clear HI hany
      go_wp2_with fail
      go_ret2
      exact ⟨_, rfl, Kd.R_nil _ _ _ _ _, HB2.out⟩
    | false =>
      have hI := HI.out
      rw [hany, if_neg (by simp)] at hI
      obtain ⟨b, hb33, hI⟩ := Option.bind_eq_some_iff.1 hI
      split at hI
      · rename_i hbnd
        obtain ⟨hb0, hb1, hb2⟩ := hbnd
        simp only [Option.some.injEq, Prod.mk.injEq] at hI
        obtain ⟨hr1, rfl⟩ := hI
        have H33 := Aside0.mk hb33
        have HR1 := Aside0.mk hr1
        clear HI hany hb33 hr1
        obtain ⟨bi, bf⟩ := b
        have hx0 : w2.cell? ⟨w.heap.size, 0, none⟩ = some (.int .i64 a1_0) := by rw [cell_cells HBX2.out]; rfl
        have hx1 : w2.cell? ⟨w.heap.size, 1, none⟩ = some (.int .i64 a1_1) := by rw [cell_cells HBX2.out]; rfl
        have hx2 : w2.cell? ⟨w.heap.size, 2, none⟩ = some (.int .u32 a1_2) := by rw [cell_cells HBX2.out]; rfl
        go_wp2_with fail
        refine (api_Key_33.calls k A0 c0 l0 a1_0 a1_1 a1_2 bi bf _ (Kd.C_below HR0.out HB2.out) HC0.out H33.out).mono ?_
        rintro e w3 ⟨rfl, hb⟩
        have HB3 := Aside0.mk (below_step HB2.out hb)
        have HBX3 := Aside0.mk ((hb.block w.heap.size (Array.getElem?_eq_some_iff.1 HBX2.out).1).trans HBX2.out)
        have HL := Aside0.mk (show l0.length < 5864062014805 by omega)
        have HCF := Aside0.mk (show slices_Clone.f l0 = some l0 by unfold slices_Clone.f; rw [if_pos (by omega)])
        clear hb hx0 hx1 hx2 HBX2 HB2
        have hx0 : w3.cell? ⟨w.heap.size, 0, none⟩ = some (.int .i64 a1_0) := by rw [cell_cells HBX3.out]; rfl
        have hx1 : w3.cell? ⟨w.heap.size, 1, none⟩ = some (.int .i64 a1_1) := by rw [cell_cells HBX3.out]; rfl
        have hx2 : w3.cell? ⟨w.heap.size, 2, none⟩ = some (.int .u32 a1_2) := by rw [cell_cells HBX3.out]; rfl
        go_wp2_with fail
        go_region_with (first | (go_at_call 35; refine (slices_Clone.calls A0 c0 l0 l0 _ ?cr HC0.out HCF.out).mono ?_; (case cr => refine Kd.C_below HR0.out ?_; repeat (first | exact HB3.out | apply below_drew1 | apply below_alloc)); rintro e w5 ⟨v5, rfl, ho, hb⟩; obtain ⟨A5, c5, rfl⟩ := Kd.R_slice ho; have HO6 := Aside0.mk ho; have HO5 := Aside0.mk (Kd.R_lower ho (below_size (by repeat (first | exact HB3.out | apply below_drew1 | apply below_alloc)))); have HB5 := Aside0.mk hb; have hbw : Below w3.heap.size w3 w5 := (by refine below_step ?_ hb; repeat (first | exact Below.refl _ _ | apply below_drew1 | apply below_alloc)); have hbx5 := (hbw.block w.heap.size (Array.getElem?_eq_some_iff.1 HBX3.out).1).trans HBX3.out; have hy0 : w5.cell? ⟨w.heap.size, 0, none⟩ = some (.int .i64 a1_0) := (by rw [cell_cells hbx5]; rfl); have hy1 : w5.cell? ⟨w.heap.size, 1, none⟩ = some (.int .i64 a1_1) := (by rw [cell_cells hbx5]; rfl); have hy2 : w5.cell? ⟨w.heap.size, 2, none⟩ = some (.int .u32 a1_2) := (by rw [cell_cells hbx5]; rfl); clear ho hb hbx5; have HBW := Aside0.mk (below_step HB3.out hbw); clear hbw) | (go_at_call 34; (with_reducible refine (insert_calls w _ A5 c5 l0 bi ⟨a1_0, a1_1, a1_2⟩ w5.heap.size ?ir ?ib ?iv ?ine hb0 hb1 hb2).mono ?_); (case ir => exact Kd.R_alloc HO5.out _); (case ib => exact below_alloc HBW.out _); (case iv => exact heap_alloc_new w5 (.cells #[.int .i64 a1_0, .int .i64 a1_1, .int .u32 a1_2] 24)); (case ine => exact fun g e => Nat.ne_of_gt (Kd.R_lt HO5.out g (by rw [e]; rfl))); rintro e w6 ⟨v6, rfl, hr6, hb6⟩) | (go_at_call 34; (with_reducible refine (insert_calls w _ A5 c5 l0 bi ⟨a1_0, a1_1, a1_2⟩ w3.heap.size ?ir ?ib ?iv ?ine hb0 hb1 hb2).mono ?_); (case ir => exact HO5.out); (case ib => exact HBW.out); (case iv => exact (HB5.out.block w3.heap.size (by simp)).trans (heap_alloc_new w3 (.cells #[.int .i64 a1_0, .int .i64 a1_1, .int .u32 a1_2] 24))); (case ine => exact fun g e => Nat.ne_of_lt (Nat.lt_of_lt_of_le (by simp) (Kd.R_base HO6.out g (by rw [e]; rfl)))); rintro e w6 ⟨v6, rfl, hr6, hb6⟩))
        all_goals (go_wp2_with fail; go_ret2; exact ⟨v6, rfl, by rw [← HR1.out]; exact hr6, hb6⟩)
      · cases hI
  · rw [if_neg h0] at h
    have h0' : (t != 0) = true := bne_iff_ne.2 h0
    clear h0
    simp only [Option.some.injEq, Prod.mk.injEq] at h
    obtain ⟨rfl, rfl⟩ := h
    go_enter Try.func18, Try.ntmps18
    go_wp2_with fail
    refine (rank_Check.calls k A0 c0 l0 t _ (Kd.C_below HR0.out (below_alloc (Below.refl _ _) _)) HC0.out HT.out).mono ?_
    rintro e w1 ⟨rfl, hb⟩
    have HB1 := Aside0.mk (below_step (below_alloc (Below.refl w.heap.size w) _) hb)
    clear hb
    go_wp2_with fail
    go_ret2
    exact ⟨_, rfl, Kd.R_nil _ _ _ _ _, HB1.out⟩

end Go.Proofs.Ytbljhjgmpldncaa.PR
