/- Contracts of the program's functions, one plain Lean function for each, written by a program of this session's over the kit's print; Lean checks every line. -/
import Derived.Test.YtbljhjgmpldncaaPR0
import Derived.Test.YtbljhjgmpldncaaPR9
import Derived.Test.YtbljhjgmpldncaaPR12
import Derived.Test.YtbljhjgmpldncaaPR19
import Derived.Test.YtbljhjgmpldncaaPR24
namespace Go.Proofs.Ytbljhjgmpldncaa.PR
open Go.RowKit Go.Proofs.YtbljhjgmpldncaaW.PrintWords Go.Proofs.YtbljhjgmpldncaaW.PrintLast Go.Proofs.YtbljhjgmpldncaaW.PrintMore
attribute [local go_sem] max2_int min2_int max_two min_two max_three min_three max_four min_four   -- for this text's walks alone
set_option linter.unusedVariables false
set_option linter.unusedSimpArgs false

/-! ### rank_Drop: function 20: by hand -/
def rank_Drop.f (k : Nat) (l0 : List S24) (a1 : Int) : Option (List S24 × Bool) := (rank_Check.f k l0).bind fun t => if t = 0 then (if l0.length < 5864062014805 then some (l0.filter (fun x => !(x.f2 == a1)), decide ((l0.filter (fun x => !(x.f2 == a1))).length < l0.length)) else none) else some ([], false)
theorem rank_Drop.mono (l0 : List S24) (a1 : Int) (k : Nat) : LeO (rank_Drop.f k l0 a1) (rank_Drop.f (k + 1) l0 a1) := by
  unfold rank_Drop.f
  exact LeO.bind (rank_Check.mono _ _) (fun _ => LeO.refl _)
theorem enters38 : ∀ args w, (callFunc 38 args).run Try.prog w = .ok (.enter 38 args) w := enters_of Try.func38 (by kernel_rfl) rfl
set_option maxHeartbeats 1000000 in
set_option maxRecDepth 100000 in
theorem rank_Drop.calls (k : Nat) (A0 : Option Addr) (c0 : Nat) (l0 : List S24) (a1 : Int) (r1 : List S24) (r2 : Bool) (w : World) (hr0 : Kd.C k24 w A0 l0.length l0) (hc0 : l0.length ≤ c0) (h : rank_Drop.f k l0 a1 = some (r1, r2)) :
    Calls Try.prog 20 #[.slice A0 l0.length c0, .int .u32 a1] w fun e w' => ∃ v0_ : Value, e = .returned (.tuple #[v0_, .bool r2]) ∧ Kd.R k24 24 w' w.heap.size (fun _ => True) v0_ r1 ∧ Below w.heap.size w w' := by
  unfold rank_Drop.f at h
  obtain ⟨t, ht, h⟩ := Option.bind_eq_some_iff.1 h
  have HT := Aside0.mk ht
  have HR0 := Aside0.mk hr0
  have HC0 := Aside0.mk hc0
  clear ht hr0 hc0
  by_cases h0 : t = 0
  · rw [if_pos h0] at h
    subst h0
    split at h
    · have HL := Aside0.mk ‹l0.length < 5864062014805›
      rename_i hll
      clear hll
      simp only [Option.some.injEq, Prod.mk.injEq] at h
      obtain ⟨hr1, hr2⟩ := h
      have hr1' := Aside0.mk hr1
      have hr2' := Aside0.mk hr2
      clear hr1 hr2
      go_enter Try.func20, Try.ntmps20
      go_wp2_with fail
      obtain ⟨wb, hwb⟩ : ∃ wb, wb = w.alloc (.cells #[.int .u32 a1] 22) := ⟨_, rfl⟩
      have HBX := Aside0.mk (show wb.heap[w.heap.size]? = some (.cells #[.int .u32 a1] 22 (0, 0)) by rw [hwb]; exact heap_alloc_new w _)
      have HB0 := Aside0.mk (show Below w.heap.size w wb by rw [hwb]; exact below_alloc (Below.refl _ _) _)
      rw [← hwb]
      clear hwb
      refine (rank_Check.calls k A0 c0 l0 0 _ (Kd.C_below HR0.out HB0.out) HC0.out HT.out).mono ?_
      rintro e w1 ⟨rfl, hb⟩
      have HB1 := Aside0.mk hb
      clear hb
      go_wp2_with fail
      refine (slices_Clone.calls A0 c0 l0 l0 _ (Kd.C_below HR0.out (below_step HB0.out HB1.out)) HC0.out (by unfold slices_Clone.f; rw [if_pos HL.out])).mono ?_
      rintro e w2 ⟨v, rfl, ho, hb⟩
      have HO := Aside0.mk (Kd.R_lower ho HB1.out.size)
      have HB2 := Aside0.mk (below_step HB1.out hb)
      clear ho hb HB1
      obtain ⟨A, c, rfl⟩ := Kd.R_slice HO.out
      go_wp2_with fail
      refine (deleteFunc_calls 38 #[.pointer (some ⟨w.heap.size, 0, none⟩)] (fun x => x.f2 == a1) wb w2 A c l0 enters38 (drop1_on _ a1 wb HBX.out) HO.out HB2.out).mono ?_
      rintro e w3 ⟨v, rfl, ho, hb⟩
      obtain ⟨A3, c3, rfl⟩ := Kd.R_slice ho
      have HO3 := Aside0.mk (Kd.R_lower ho HB0.out.size)
      have HB3 := Aside0.mk (below_step HB0.out hb)
      clear ho hb HB2 HO
      go_wp2_with fail
      go_ret2
      exact ⟨.slice A3 (l0.filter (fun x => !(x.f2 == a1))).length c3, by rw [← hr2'.out]; simp, by rw [← hr1'.out]; exact HO3.out, HB3.out⟩
    · cases h
  · rw [if_neg h0] at h
    have h0' : (t != 0) = true := bne_iff_ne.2 h0
    clear h0
    simp only [Option.some.injEq, Prod.mk.injEq] at h
    obtain ⟨rfl, rfl⟩ := h
    go_enter Try.func20, Try.ntmps20
    go_wp2_with fail
    refine (rank_Check.calls k A0 c0 l0 t _ (Kd.C_below HR0.out (below_alloc (Below.refl _ _) _)) HC0.out HT.out).mono ?_
    rintro e w1 ⟨rfl, hb⟩
    have HB1 := Aside0.mk (below_step (below_alloc (Below.refl w.heap.size w) _) hb)
    clear hb
    go_wp2_with fail
    go_ret2
    exact ⟨_, rfl, Kd.R_nil _ _ _ _ _, HB1.out⟩

end Go.Proofs.Ytbljhjgmpldncaa.PR
