/- Contracts of the program's functions, one plain Lean function for each, written by a program of this session's over the kit's print; Lean checks every line. -/
import Derived.Test.YtbljhjgmpldncaaPR0
namespace Go.Proofs.Ytbljhjgmpldncaa.PR
open Go.RowKit Go.Proofs.YtbljhjgmpldncaaW.PrintWords Go.Proofs.YtbljhjgmpldncaaW.PrintLast Go.Proofs.YtbljhjgmpldncaaW.PrintMore
attribute [local go_sem] max2_int min2_int max_two min_two max_three min_three max_four min_four   -- for this text's walks alone
set_option linter.unusedVariables false
set_option linter.unusedSimpArgs false

/-! ### slices.IndexFunc, ContainsFunc (47, 31) over a predicate: by hand -/
/-- What is asked of a predicate: at every key, in every world in which all that lay in w lies unturned, it says p, and leaves such a world. -/
def PredOn (g : Nat) (lb : Array Value) (p : S24 → Bool) (w : World) : Prop :=
  ∀ (W : World) (x : S24), Below w.heap.size w W → Calls Try.prog g (#[.agg #[.int .i64 x.f0, .int .i64 x.f1, .int .u32 x.f2]] ++ lb) W fun e w' => e = .returned (.bool (p x)) ∧ Below W.heap.size W w'
theorem PredOn.later {g : Nat} {lb : Array Value} {p : S24 → Bool} {w w1 : World} (h : PredOn g lb p w) (hb : Below w.heap.size w w1) : PredOn g lb p w1 := fun W x hW => h W x (below_step hb hW)
def found (p : S24 → Bool) (l : List S24) (i : Int) : Prop := (i = -1 ∧ ∀ y ∈ l, p y = false) ∨ (0 ≤ i ∧ i < l.length ∧ p (rd_T24 l i) = true ∧ ∀ y ∈ l.take i.toNat, p y = false)
theorem take_rd (l : List S24) (x : Int) (h0 : 0 ≤ x) (hlt : x < l.length) : l.take (x + 1).toNat = l.take x.toNat ++ [rd_T24 l x] := by
  rw [show (x + 1).toNat = x.toNat + 1 by omega, List.take_succ_eq_append_getElem (by omega)]
  simp only [rd_T24, List.getD_eq_getElem?_getD, List.getElem?_eq_getElem (show x.toNat < l.length by omega), Option.getD_some]
set_option maxHeartbeats 1000000 in
set_option maxRecDepth 100000 in
theorem indexFunc_calls (g : Nat) (lb : Array Value) (p : S24 → Bool) (A0 : Option Addr) (c0 : Nat) (l0 : List S24) (w0 w : World) (eg : ∀ args w, (callFunc g args).run Try.prog w = .ok (.enter g args) w) (hr0 : Kd.C k24 w A0 l0.length l0) (hp : PredOn g lb p w) (hB : Below w0.heap.size w0 w) :
    Calls Try.prog 47 #[.slice A0 l0.length c0, .func (.func g) #[] lb] w fun e w' => ∃ i : Int, e = .returned (.int .i64 i) ∧ found p l0 i ∧ Below w.heap.size w w' := by
  have hm0 : l0.length ≤ 9223372036854775807 := hr0.2.1
  have HP := Aside0.mk hp
  have HR0 := Aside0.mk hr0
  clear hr0 hp hB
  have HB := Aside0.mk (Below.refl w.heap.size w)
  have hu24 := Try.underlying24
  go_enter Try.func47, Try.ntmps47
  go_wp2_with fail
  go_loopw [5, 8] (fun _ i wr => ∃ (x : Int), i = .int .i64 x ∧ 0 ≤ x ∧ x ≤ l0.length ∧ Aside0 (∀ y ∈ l0.take x.toNat, p y = false) ∧ Aside0 (Below w.heap.size w wr)) (fun _ v _ => l0.length - (intOf v).toNat)
  case atStart => exact ⟨0, rfl, by omega, by omega, ⟨by simp⟩, HB⟩
  case round =>
    clear HB
    obtain ⟨x, rfl, h0, hi, HN, HB⟩ := hrel
    by_cases hlt : x < l0.length
    · obtain ⟨ad, e1, g0, g1, g2⟩ := at_T24 (Kd.C_below HR0.out (HB.out)) x h0 hlt
      cases e1
      have hcall := Aside0.mk (HP.out wr (rd_T24 l0 x) HB.out)
      cases hq : p (rd_T24 l0 x) with
      | true =>
        have HQ := Aside0.mk hq
        rw [hq] at hcall
        clear hq
        go_wp2_with fail
        refine hcall.out.mono ?_
        rintro e w' ⟨rfl, hb'⟩
        go_wp2_with fail
        go_ret
        exact ⟨x, rfl, .inr ⟨h0, hlt, HQ.out, HN.out⟩, below_step HB.out hb'⟩
      | false =>
        have HQ := Aside0.mk hq
        rw [hq] at hcall
        clear hq
        go_wp2_with fail
        refine hcall.out.mono ?_
        rintro e w' ⟨rfl, hb'⟩
        go_wp2_with fail
        go_roundw
        case measure => simp [intOf]; omega
        case rel =>
          refine ⟨x + 1, rfl, by omega, by omega, ⟨fun y hy => ?_⟩, ⟨below_step HB.out hb'⟩⟩
          rw [take_rd l0 x h0 hlt] at hy
          rcases List.mem_append.1 hy with h | h
          · exact HN.out y h
          · simp at h
            subst h
            exact HQ.out
    · go_wp2_with fail
      go_ret
      exact ⟨-1, rfl, .inl ⟨rfl, by have h := HN.out; rwa [List.take_of_length_le (by omega)] at h⟩, HB.out⟩
set_option maxHeartbeats 1000000 in
set_option maxRecDepth 100000 in
theorem containsFunc_calls (g : Nat) (lb : Array Value) (p : S24 → Bool) (A0 : Option Addr) (c0 : Nat) (l0 : List S24) (w : World) (eg : ∀ args w, (callFunc g args).run Try.prog w = .ok (.enter g args) w) (hr0 : Kd.C k24 w A0 l0.length l0) (hp : PredOn g lb p w) :
    Calls Try.prog 31 #[.slice A0 l0.length c0, .func (.func g) #[] lb] w fun e w' => e = .returned (.bool (l0.any p)) ∧ Below w.heap.size w w' := by
  have HP := Aside0.mk hp
  have HR0 := Aside0.mk hr0
  clear hr0 hp
  go_enter Try.func31, Try.ntmps31
  go_wp2_with fail
  refine (indexFunc_calls g lb p A0 c0 l0 w _ eg HR0.out HP.out (Below.refl _ _)).mono ?_
  rintro e w1 ⟨i, rfl, hf, hb⟩
  have HF := Aside0.mk hf
  clear hf
  by_cases hi : 0 ≤ i
  · go_wp2_with fail
    go_ret
    refine ⟨?_, hb⟩
    rcases HF.out with ⟨h, _⟩ | ⟨h0, h1, h2, _⟩
    · omega
    · have : l0.any p = true := List.any_eq_true.2 ⟨_, by
        unfold rd_T24
        rw [List.getD_eq_getElem?_getD, List.getElem?_eq_getElem (by omega), Option.getD_some]
        exact List.getElem_mem _, h2⟩
      rw [this]
      rfl
  · go_wp2_with fail
    go_ret
    refine ⟨?_, hb⟩
    rcases HF.out with ⟨_, h⟩ | ⟨h0, h1, h2, _⟩
    · have : l0.any p = false := List.any_eq_false.2 (fun y hy => by rw [h y hy]; simp)
      rw [this]
      show Ending.returned (Value.bool (decide (0 ≤ i))) = _
      rw [decide_eq_false (by omega)]
    · omega
/-! ### the two predicates (32, 38) -/
set_option maxHeartbeats 1000000 in
set_option maxRecDepth 100000 in
theorem put1_on (g : Nat) (a b c : Int) (w : World) (hg : w.heap[g]? = some (.cells #[.int .i64 a, .int .i64 b, .int .u32 c] 24 (0, 0))) : PredOn 32 #[.pointer (some ⟨g, 0, none⟩)] (fun x => x.f2 == c) w := by
  intro W x hb
  have hlt : g < w.heap.size := by
    rcases Nat.lt_or_ge g w.heap.size with h | h
    · exact h
    · rw [Array.getElem?_eq_none h] at hg; cases hg
  have HB := Aside0.mk hb
  have hc2 : W.cell? ⟨g, 2, none⟩ = some (.int .u32 c) := by
    rw [hb.cell (p := ⟨g, 2, none⟩) hlt]
    simp [World.cell?, hg]
  have hca : (W.alloc (.cells #[.int .i64 x.f0, .int .i64 x.f1, .int .u32 x.f2] 24)).cell? ⟨g, 2, none⟩ = some (.int .u32 c) := by
    rw [(below_alloc (Below.refl W.heap.size W) _).cell (p := ⟨g, 2, none⟩) (Nat.lt_of_lt_of_le hlt hb.size)]
    exact hc2
  clear hb
  show Calls Try.prog 32 #[.agg #[.int .i64 x.f0, .int .i64 x.f1, .int .u32 x.f2], .pointer (some ⟨g, 0, none⟩)] W _
  have hu24 := Try.underlying24
  go_enter Try.func32, Try.ntmps32
  go_wp2_with fail
  go_ret
  exact ⟨rfl, below_alloc (Below.refl _ _) _⟩
set_option maxHeartbeats 1000000 in
set_option maxRecDepth 100000 in
theorem drop1_on (g : Nat) (c : Int) (w : World) (hg : w.heap[g]? = some (.cells #[.int .u32 c] 22 (0, 0))) : PredOn 38 #[.pointer (some ⟨g, 0, none⟩)] (fun x => x.f2 == c) w := by
  intro W x hb
  have hlt : g < w.heap.size := by
    rcases Nat.lt_or_ge g w.heap.size with h | h
    · exact h
    · rw [Array.getElem?_eq_none h] at hg; cases hg
  have HB := Aside0.mk hb
  have hc2 : W.cell? ⟨g, 0, none⟩ = some (.int .u32 c) := by
    rw [hb.cell (p := ⟨g, 0, none⟩) hlt]
    simp [World.cell?, hg]
  have hca : (W.alloc (.cells #[.int .i64 x.f0, .int .i64 x.f1, .int .u32 x.f2] 24)).cell? ⟨g, 0, none⟩ = some (.int .u32 c) := by
    rw [(below_alloc (Below.refl W.heap.size W) _).cell (p := ⟨g, 0, none⟩) (Nat.lt_of_lt_of_le hlt hb.size)]
    exact hc2
  clear hb
  show Calls Try.prog 38 #[.agg #[.int .i64 x.f0, .int .i64 x.f1, .int .u32 x.f2], .pointer (some ⟨g, 0, none⟩)] W _
  have hu24 := Try.underlying24
  go_enter Try.func38, Try.ntmps38
  go_wp2_with fail
  go_ret
  exact ⟨rfl, below_alloc (Below.refl _ _) _⟩

end Go.Proofs.Ytbljhjgmpldncaa.PR
