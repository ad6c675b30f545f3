/- Contracts of the program's functions, one plain Lean function for each, written by a program of this session's over the kit's print; Lean checks every line. -/
import Derived.Test.YtbljhjgmpldncaaPR0
namespace Go.Proofs.Ytbljhjgmpldncaa.PR
open Go.RowKit Go.Proofs.YtbljhjgmpldncaaW.PrintWords Go.Proofs.YtbljhjgmpldncaaW.PrintLast Go.Proofs.YtbljhjgmpldncaaW.PrintMore
attribute [local go_sem] max2_int min2_int max_two min_two max_three min_three max_four min_four   -- for this text's walks alone
set_option linter.unusedVariables false
set_option linter.unusedSimpArgs false

/-! ### slices_Concat: function 27: by hand -/
def rd_LL24 (xs : List (List S24)) (i : Int) : List S24 := xs.getD i.toNat []
theorem at_LL24 {w : World} {A : Option Addr} {n : Nat} {xs : List (List S24)} (h : Kd.C (Kd.slice 24 k24) w A n xs) (i : Int) (h0 : 0 ≤ i) (h1 : i < n) : ∃ ad A0 c0, A = some ad ∧ w.cell? (ad.add i.toNat) = some (.slice A0 (rd_LL24 xs i).length c0) ∧ (rd_LL24 xs i).length ≤ c0 ∧ k24.C w A0 (rd_LL24 xs i).length (rd_LL24 xs i) := by
  obtain ⟨ad, c, e, _, ⟨A0, c0, rfl, hl, hC⟩, hc⟩ := Kd.C_get h [] i h0 h1
  exact ⟨ad, A0, c0, e, by have h := hc 0 _ rfl; rwa [show (Kd.slice 24 k24).sz = 1 from rfl, Nat.mul_one, Nat.add_zero] at h, hl, hC⟩
def sumLen (xs : List (List S24)) : Nat := (xs.map List.length).sum
theorem sumLen_take (xs : List (List S24)) (x : Int) (h0 : 0 ≤ x) (hlt : x < xs.length) : sumLen (xs.take (x + 1).toNat) = sumLen (xs.take x.toNat) + (rd_LL24 xs x).length := by
  rw [show (x + 1).toNat = x.toNat + 1 by omega, List.take_succ_eq_append_getElem (by omega)]
  simp only [sumLen, List.map_append, List.sum_append, List.map_cons, List.map_nil, List.sum_cons, List.sum_nil, rd_LL24, List.getD_eq_getElem?_getD, List.getElem?_eq_getElem (show x.toNat < xs.length by omega), Option.getD_some, Nat.add_zero]
theorem sumLen_le (xs : List (List S24)) (n : Nat) : sumLen (xs.take n) ≤ sumLen xs := by
  have : sumLen xs = sumLen (xs.take n) + sumLen (xs.drop n) := by
    conv => lhs; rw [← List.take_append_drop n xs]
    simp only [sumLen, List.map_append, List.sum_append]
  omega
theorem flat_take (xs : List (List S24)) (x : Int) (h0 : 0 ≤ x) (hlt : x < xs.length) : (xs.take (x + 1).toNat).flatten = (xs.take x.toNat).flatten ++ rd_LL24 xs x := by
  rw [show (x + 1).toNat = x.toNat + 1 by omega, List.take_succ_eq_append_getElem (by omega)]
  simp only [List.flatten_append, List.flatten_cons, List.flatten_nil, List.append_nil, rd_LL24, List.getD_eq_getElem?_getD, List.getElem?_eq_getElem (show x.toNat < xs.length by omega), Option.getD_some]
theorem flat_len (xs : List (List S24)) : xs.flatten.length = sumLen xs := by simp [sumLen, List.length_flatten]
def slices_Concat.f (l0 : List (List S24)) : Option (List S24) := if sumLen l0 < 5864062014805 then some l0.flatten else none
set_option maxHeartbeats 2000000 in
set_option maxRecDepth 100000 in
theorem grow_nil (m : Nat) (hm : m < 5864062014805) (W : World) : Calls Try.prog 44 #[.slice none 0 0, .int .i64 (m : Int)] W fun e w' => ∃ v : Value, e = .returned v ∧ Kd.R k24 24 w' W.heap.size (fun _ => True) v [] ∧ Below W.heap.size W w' := by
  have HB := Aside0.mk (Below.refl W.heap.size W)
  have HM := Aside0.mk hm
  by_cases h0 : m = 0
  · subst h0
    go_enter Try.func44, Try.ntmps44
    go_wp2_with fail
    go_ret
    exact ⟨_, rfl, Kd.R_nil _ _ _ _ _, HB.out⟩
  · have h1 : 0 < m := by omega
    clear h0
    go_enter Try.func44, Try.ntmps44
    go_wp2_with (first | ((with_reducible refine gate_builtin (b := .append) (xs := #[.tmp 20, .tmp 21]) rfl ?_); at_builtin; go_loud (refine Kd.R_append_zeros k24 (w0 := W) W.heap.size rfl (.tmp 20) (.tmp 21) 32 3 24 (.agg #[(.int .i64 0), (.int .i64 0), (.int .u32 0)]) 24 rfl Try.underlying32 Try.underlying3 info24 rfl (by decide) (by omega) (.slice none 0 0) ([] : List S24) z24 (m : Int) (fun _ => True) rfl rfl ?aZ (fun _ _ => trivial) ?aO ?aN HB.out (Nat.le_refl _) ?aL ?_); (case aZ => exact k24_mkM _ _ _ _); (case aO => exact Kd.R_nil _ _ _ _ _); (case aN => omega); (case aL => have := HM.out; simp; omega); intro v1 w1 ho hb hg hat; obtain ⟨A1, c1, hv⟩ := Kd.R_slice ho; subst hv; have HO := Aside0.mk ho; have HB1 := Aside0.mk hb; clear ho hb hg hat))
    go_ret
    have h2 := Kd.R_take HO.out (m := 0) (Nat.zero_le _)
    exact ⟨_, rfl, by simpa using h2, HB1.out⟩
set_option maxHeartbeats 2000000 in
set_option maxRecDepth 100000 in
theorem slices_Concat.calls (A0 : Option Addr) (c0 : Nat) (l0 : List (List S24)) (r : List S24) (w : World) (hr0 : Kd.C (Kd.slice 24 k24) w A0 l0.length l0) (hc0 : l0.length ≤ c0) (h : slices_Concat.f l0 = some r) :
    Calls Try.prog 27 #[.slice A0 l0.length c0] w fun e w' => ∃ v0_ : Value, e = .returned v0_ ∧ Kd.R k24 24 w' w.heap.size (fun _ => True) v0_ r ∧ Below w.heap.size w w' := by
  obtain ⟨hl, rfl⟩ : sumLen l0 < 5864062014805 ∧ l0.flatten = r := by
    unfold slices_Concat.f at h
    split at h
    · exact ⟨‹_›, by simpa using h⟩
    · simp at h
  clear h
  have hm0 : l0.length ≤ 9223372036854775807 := hr0.2.1
  have HL := Aside0.mk hl
  have HR0 := Aside0.mk hr0
  clear hr0 hl
  have HB := Aside0.mk (Below.refl w.heap.size w)
  go_enter Try.func27, Try.ntmps27
  go_wp2_with fail
  go_loop [3, 11] (fun s i => ∃ (x : Int) (m : Nat), i = .int .i64 x ∧ s = .int .i64 (m : Int) ∧ 0 ≤ x ∧ x ≤ l0.length ∧ Aside0 (m = sumLen (l0.take x.toNat))) (fun _ v => l0.length - (intOf v).toNat)
  case atStart => exact ⟨0, 0, rfl, rfl, by omega, by omega, ⟨by simp [sumLen]⟩⟩
  case round =>
    obtain ⟨x, m, rfl, rfl, h0, hi, hm⟩ := hrel
    by_cases hlt : x < l0.length
    · have hms : m + (rd_LL24 l0 x).length < 5864062014805 := by
        have := sumLen_take l0 x h0 hlt
        have := sumLen_le l0 (x + 1).toNat
        have := hm.out
        have := HL.out
        omega
      obtain ⟨ad, A1, c1, e1, g0, g1, g2⟩ := at_LL24 HR0.out x h0 hlt
      have G2 := Aside0.mk g2
      clear g2
      cases e1
      go_wp2_with fail
      go_round
      case measure => simp [intOf]; omega
      case rel => exact ⟨x + 1, m + (rd_LL24 l0 x).length, rfl, by go_num, by omega, by omega, ⟨by rw [sumLen_take l0 x h0 hlt, ← hm.out]⟩⟩
    · have hms : m < 5864062014805 := by
        have := sumLen_le l0 x.toNat
        have := hm.out
        have := HL.out
        omega
      go_wp2_with fail
      refine (grow_nil m hms _).mono ?_
      rintro e w1 ⟨v, rfl, ho, hb⟩
      have HO := Aside0.mk ho
      have HB1 := Aside0.mk hb
      clear ho hb HB hlt hm
      go_wp2_with fail
      go_loopw [6, 27] (fun s i wr => ∃ (x : Int), i = .int .i64 x ∧ 0 ≤ x ∧ x ≤ l0.length ∧ Aside0 (Kd.R k24 24 wr w.heap.size (fun _ => True) s (l0.take x.toNat).flatten) ∧ Aside0 (Below w.heap.size w wr)) (fun _ v _ => l0.length - (intOf v).toNat)
      case atStart => exact ⟨0, rfl, by omega, by omega, by simpa using HO, HB1⟩
      case round =>
        clear HO HB1 h0 hi
        obtain ⟨y, rfl, h0, hi, HO, HB⟩ := hrel
        by_cases hlt : y < l0.length
        · have hms : (l0.take y.toNat).flatten.length + (rd_LL24 l0 y).length < 5864062014805 := by
            have := sumLen_take l0 y h0 hlt
            have := sumLen_le l0 (y + 1).toNat
            have := HL.out
            rw [flat_len]
            omega
          have HLX := Aside0.mk hms
          clear hms
          obtain ⟨ad, A1, c1, e1, g0, g1, g2⟩ := at_LL24 (Kd.C_below HR0.out HB.out) y h0 hlt
          have G2 := Aside0.mk g2
          clear g2
          cases e1
          go_wp2_with (first | ((with_reducible refine gate_builtin (b := .append) (xs := #[.tmp 31, .tmp 32]) rfl ?_); at_builtin; go_loud (refine Kd.R_append_rows k24 (w0 := w) w.heap.size rfl (.tmp 31) (.tmp 32) 32 24 (.agg #[(.int .i64 0), (.int .i64 0), (.int .u32 0)]) 24 rfl Try.underlying32 info24 rfl (by decide) (by omega) _ ((l0.take y.toNat).flatten) (rd_LL24 l0 y) _ _ _ (fun _ => True) (fun _ => False) rfl rfl HO.out ?aR (fun _ _ h => h) (fun _ h => h.elim) ?aF HB.out HB.out.size ?aL ?_); (case aR => exact G2.out); (case aF => exact (fun _ _ => trivial)); (case aL => have := HLX.out; omega); intro v177 w3 ho hb hg hat; have HO3 := Aside0.mk ho; have HB3 := Aside0.mk hb; clear ho hb hg hat HO HB))
          go_roundw
          case measure => simp [intOf]; omega
          case rel => exact ⟨y + 1, rfl, by omega, by omega, ⟨by rw [flat_take l0 y h0 hlt]; exact HO3.out⟩, HB3⟩
        · go_wp2_with fail
          go_ret
          exact ⟨_, rfl, by have h := HO.out; rwa [List.take_of_length_le (by omega)] at h, HB.out⟩

end Go.Proofs.Ytbljhjgmpldncaa.PR
