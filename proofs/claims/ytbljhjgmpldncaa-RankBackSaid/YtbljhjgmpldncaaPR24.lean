/- Contracts of the program's functions, one plain Lean function for each, written by a program of this session's over the kit's print; Lean checks every line. -/
import Derived.Test.YtbljhjgmpldncaaPR0
import Derived.Test.YtbljhjgmpldncaaPR5
import Derived.Test.YtbljhjgmpldncaaPR11
import Derived.Test.YtbljhjgmpldncaaPR19
import Derived.Test.YtbljhjgmpldncaaPR21
namespace Go.Proofs.Ytbljhjgmpldncaa.PR
open Go.RowKit Go.Proofs.YtbljhjgmpldncaaW.PrintWords Go.Proofs.YtbljhjgmpldncaaW.PrintLast Go.Proofs.YtbljhjgmpldncaaW.PrintMore
attribute [local go_sem] max2_int min2_int max_two min_two max_three min_three max_four min_four   -- for this text's walks alone
set_option linter.unusedVariables false
set_option linter.unusedSimpArgs false

/-! ### slices.DeleteFunc (37) over a row of the call's own: by hand -/
theorem flat24_at (xs : List S24) (x : Int) (h0 : 0 ≤ x) (hlt : x < xs.length) : (xs.flatMap enc24)[x.toNat * 3]? = some (.int .i64 (rd_T24 xs x).f0) ∧ (xs.flatMap enc24)[x.toNat * 3 + 1]? = some (.int .i64 (rd_T24 xs x).f1) ∧ (xs.flatMap enc24)[x.toNat * 3 + 2]? = some (.int .u32 (rd_T24 xs x).f2) := by
  have hd := flat24_drop xs x.toNat
  rw [List.drop_eq_getElem_cons (show x.toNat < xs.length by omega), List.flatMap_cons] at hd
  have he : xs[x.toNat]'(by omega) = rd_T24 xs x := by simp [rd_T24, List.getD_eq_getElem?_getD, List.getElem?_eq_getElem (show x.toNat < xs.length by omega)]
  rw [he] at hd
  have h (m : Nat) : (xs.flatMap enc24)[x.toNat * 3 + m]? = (enc24 (rd_T24 xs x) ++ (xs.drop (x.toNat + 1)).flatMap enc24)[m]? := by rw [← hd, List.getElem?_drop]
  exact ⟨h 0, h 1, h 2⟩
theorem keep_row (cur : List Value) (ks : List S24) (i : Nat) (x : S24) (hi : ks.length = i) (hk : cur.take (i * 3) = ks.flatMap enc24) (hfit : i * 3 + 3 ≤ cur.length) : (splice cur (i * 3) (enc24 x)).take ((i + 1) * 3) = (ks ++ [x]).flatMap enc24 := by
  unfold splice
  have hl : (cur.take (i * 3)).length = i * 3 := by rw [List.length_take]; omega
  rw [Nat.succ_mul, List.take_append, List.take_of_length_le (by omega), hl, hk, List.flatMap_append]
  congr 1
  rw [List.take_append_of_le_length (by rw [enc24_len]; omega), List.take_of_length_le (by rw [enc24_len]; omega)]
  simp
theorem keep_high (cur : List Value) (i m : Nat) (x : S24) (hm : i * 3 + 3 ≤ m) (hfit : i * 3 + 3 ≤ cur.length) : (splice cur (i * 3) (enc24 x))[m]? = cur[m]? := by
  unfold splice
  have hl : (cur.take (i * 3)).length = i * 3 := by rw [List.length_take]; omega
  rw [List.getElem?_append_right (by omega), hl, List.getElem?_append_right (by rw [enc24_len]; omega), enc24_len, List.getElem?_drop]
  congr 1
  omega
theorem zero24 (w : World) : (zeroValue 24).run Try.prog w = .ok (.agg #[.int .i64 0, .int .i64 0, .int .u32 0]) w := by kernel_rfl
set_option maxHeartbeats 4000000 in
set_option maxRecDepth 100000 in
theorem deleteFunc_calls (f0 : Nat) (lb : Array Value) (p : S24 → Bool) (w0 W : World) (A : Option Addr) (c : Nat) (xs : List S24) (eg : ∀ args w, (callFunc f0 args).run Try.prog w = .ok (.enter f0 args) w) (hp : PredOn f0 lb p w0) (hR : Kd.R k24 24 W w0.heap.size (fun _ => True) (.slice A xs.length c) xs) (hB : Below w0.heap.size w0 W) :
    Calls Try.prog 37 #[.slice A xs.length c, .func (.func f0) #[] lb] W fun e w' => ∃ v, e = .returned v ∧ Kd.R k24 24 w' w0.heap.size (fun _ => True) v (xs.filter (fun x => !p x)) ∧ Below w0.heap.size w0 w' := by
  have hC := (Kd.R_reads' hR).2.2
  have hm0 : xs.length ≤ 9223372036854775807 := hC.2.1
  have HP := Aside0.mk hp
  have HR := Aside0.mk hR
  have HB := Aside0.mk hB
  have HC := Aside0.mk hC
  clear hp hR hB hC
  have hu24 := Try.underlying24
  go_enter Try.func37, Try.ntmps37
  go_wp2_with fail
  refine (indexFunc_calls f0 lb p A c xs w0 W eg HC.out (HP.out.later HB.out) HB.out).mono ?_
  rintro e w1 ⟨i0, rfl, hf, hb⟩
  have HF := Aside0.mk hf
  have HR1 := Aside0.mk (Kd.R_below HR.out hb)
  have HB1 := Aside0.mk (below_step HB.out hb)
  clear hf hb HR HB HC
  by_cases hi : i0 = -1
  · subst hi
    go_wp2_with fail
    go_ret
    refine ⟨.slice A xs.length c, rfl, ?_, HB1.out⟩
    rcases HF.out with ⟨_, h⟩ | ⟨h0, _⟩
    · rw [List.filter_eq_self.2 (fun y hy => by rw [h y hy]; rfl)]
      exact HR1.out
    · omega
  · have hf : 0 ≤ i0 ∧ i0 < xs.length ∧ p (rd_T24 xs i0) = true ∧ ∀ y ∈ xs.take i0.toNat, p y = false := by
      rcases HF.out with ⟨h, _⟩ | h
      · exact absurd h hi
      · exact h
    obtain ⟨hi0, hi1, hi2, hi3⟩ := hf
    obtain ⟨g, cur0, hA, hbg, hh, hcn, hcm, hsz, htk⟩ : ∃ (g : Nat) (cur : List Value), A = some ⟨g, 0, none⟩ ∧ w0.heap.size ≤ g ∧ w1.heap[g]? = some (.cells cur.toArray 24 (0, 0)) ∧ xs.length ≤ c ∧ c ≤ maxLen ∧ cur.length = c * 3 ∧ cur.take (xs.length * 3) = xs.flatMap enc24 := by
      rcases (plain24.own HR1.out).2 with ⟨h1, h2⟩ | ⟨g', cap, cur, h1, h2, h3, h4, h5, h6, h7⟩
      · omega
      · injection h1 with hA _ hc
        subst hc
        exact ⟨g', cur.toList, hA, h2, h3, h4, h5, by simpa using h6, h7⟩
    have hc63 : c ≤ 9223372036854775807 := hcm
    have hib : (i0 == -1) = false := beq_eq_false_iff_ne.2 hi
    have HBG := Aside0.mk hbg
    have hks : (xs.take (i0 + 1).toNat).filter (fun x => !p x) = xs.take i0.toNat := by
      rw [take_rd xs i0 hi0 hi1, List.filter_append, List.filter_eq_self.2 (fun y hy => by rw [hi3 y hy]; rfl)]
      simp [hi2]
    have htk2 : cur0.take (i0.toNat * 3) = (xs.take i0.toNat).flatMap enc24 := by
      rw [← flat24_take, ← htk, List.take_take, Nat.min_eq_left (by omega)]
    have HK0 : Aside0 (((xs.take (i0 + 1).toNat).filter (fun x => !p x)).length = i0.toNat ∧ cur0.take (i0.toNat * 3) = ((xs.take (i0 + 1).toNat).filter (fun x => !p x)).flatMap enc24) := ⟨by rw [hks, List.length_take]; omega, by rw [hks, htk2]⟩
    have HH0 : Aside0 (∀ m, (i0 + 1).toNat * 3 ≤ m → m < xs.length * 3 → cur0[m]? = (xs.flatMap enc24)[m]?) := ⟨fun m _ hm => by rw [← htk, List.getElem?_take_of_lt hm]⟩
    have HHp := Aside0.mk hh
    have HSZ := Aside0.mk hsz
    obtain ⟨ad, rfl, HAD⟩ : ∃ ad : Addr, A = some ad ∧ Aside0 (ad = ⟨g, 0, none⟩) := ⟨_, hA, ⟨rfl⟩⟩
    clear hA hbg hh hcm hsz htk hks htk2 hi2 hi3 HF HR1
    go_wp2_with fail
    go_loopw [5, 6, 7] (fun s5 s6 _ wr => ∃ (i j : Int) (cur : List Value), s5 = .int .i64 i ∧ s6 = .int .i64 j ∧ 0 ≤ i ∧ i < j ∧ j ≤ xs.length ∧ Aside0 (((xs.take j.toNat).filter (fun x => !p x)).length = i.toNat ∧ cur.take (i.toNat * 3) = ((xs.take j.toNat).filter (fun x => !p x)).flatMap enc24) ∧ Aside0 (∀ m, j.toNat * 3 ≤ m → m < xs.length * 3 → cur[m]? = (xs.flatMap enc24)[m]?) ∧ Aside0 (wr.heap[g]? = some (.cells cur.toArray 24 (0, 0))) ∧ Aside0 (cur.length = c * 3) ∧ Aside0 (Below w0.heap.size w0 wr)) (fun _ v _ _ => xs.length - (intOf v).toNat)
    case atStart => exact ⟨i0, i0 + 1, cur0, rfl, by go_num, by omega, by omega, by omega, HK0, HH0, HHp, HSZ, HB1⟩
    case round =>
      clear HK0 HH0 HHp HSZ HB1 hi hi0 hi1
      obtain ⟨i, j, cur, rfl, rfl, h0, hij, hj, HK, HH, HHp, HSZ, HB⟩ := hrel
      by_cases hlt : j < xs.length
      · obtain ⟨e0, e1, e2⟩ := flat24_at xs j (by omega) hlt
        have hcell : ∀ (m : Nat) (v : Value), m < 3 → (xs.flatMap enc24)[j.toNat * 3 + m]? = some v → wr.cell? ⟨g, j.toNat * 3 + m, none⟩ = some v := fun m v hm hv => by
          rw [cell_cells HHp.out, List.getElem?_toArray, HH.out _ (by omega) (by omega), hv]
        have hadd : ad.add (j.toNat * 3) = ⟨g, j.toNat * 3, none⟩ := by rw [HAD.out, Addr.add_lit, Nat.zero_add]
        have g0 : wr.cell? (ad.add (j.toNat * 3)) = some (.int .i64 (rd_T24 xs j).f0) := by rw [hadd]; exact hcell 0 _ (by omega) e0
        have g1 : wr.cell? ⟨(ad.add (j.toNat * 3)).block, (ad.add (j.toNat * 3)).off + 1, none⟩ = some (.int .i64 (rd_T24 xs j).f1) := by rw [hadd]; exact hcell 1 _ (by omega) e1
        have g2 : wr.cell? ⟨(ad.add (j.toNat * 3)).block, (ad.add (j.toNat * 3)).off + 2, none⟩ = some (.int .u32 (rd_T24 xs j).f2) := by rw [hadd]; exact hcell 2 _ (by omega) e2
        clear e0 e1 e2 hcell hadd
        have htj := Aside0.mk (take_rd xs j (by omega) hlt)
        cases hq : p (rd_T24 xs j) with
        | true =>
          have HQ := Aside0.mk hq
          have hcall := Aside0.mk (HP.out (wr.alloc (.cells #[.int .i64 (rd_T24 xs j).f0, .int .i64 (rd_T24 xs j).f1, .int .u32 (rd_T24 xs j).f2] 24)) (rd_T24 xs j) (below_alloc HB.out _))
          rw [hq] at hcall
          clear hq
          go_wp2_with fail
          refine hcall.out.mono ?_
          rintro e w2 ⟨rfl, hb'⟩
          have HB2 := Aside0.mk (below_step (below_alloc HB.out _) hb')
          have HH2 := Aside0.mk (show w2.heap[g]? = some (.cells cur.toArray 24 (0, 0)) from ((below_step (below_alloc (Below.refl _ _) _) hb').block g (Array.getElem?_eq_some_iff.1 HHp.out).1).trans HHp.out)
          clear hb' hcall
          go_wp2_with fail
          go_roundw
          case measure => simp [intOf]; omega
          case rel =>
            refine ⟨i, j + 1, cur, rfl, by go_num, by omega, by omega, by omega, ?_, ⟨fun m h1 h2 => HH.out m (by omega) h2⟩, HH2, HSZ, HB2⟩
            rw [htj.out, List.filter_append, show [rd_T24 xs j].filter (fun x => !p x) = [] by simp [HQ.out], List.append_nil]
            exact HK
        | false =>
          have HQ := Aside0.mk hq
          have hcall := Aside0.mk (HP.out (wr.alloc (.cells #[.int .i64 (rd_T24 xs j).f0, .int .i64 (rd_T24 xs j).f1, .int .u32 (rd_T24 xs j).f2] 24)) (rd_T24 xs j) (below_alloc HB.out _))
          rw [hq] at hcall
          clear hq
          go_wp2_with fail
          refine hcall.out.mono ?_
          rintro e w2 ⟨rfl, hb'⟩
          have HB2 := Aside0.mk (below_step (below_alloc HB.out _) hb')
          have HH2 := Aside0.mk (show w2.heap[g]? = some (.cells cur.toArray 24 (0, 0)) from ((below_step (below_alloc (Below.refl _ _) _) hb').block g (Array.getElem?_eq_some_iff.1 HHp.out).1).trans HHp.out)
          have hbx := (hb'.block wr.heap.size (by simp)).trans (heap_alloc_new wr (.cells #[.int .i64 (rd_T24 xs j).f0, .int .i64 (rd_T24 xs j).f1, .int .u32 (rd_T24 xs j).f2] 24))
          have x0 : w2.cell? ⟨wr.heap.size, 0, none⟩ = some (.int .i64 (rd_T24 xs j).f0) := by rw [cell_cells hbx]; rfl
          have x1 : w2.cell? ⟨wr.heap.size, 1, none⟩ = some (.int .i64 (rd_T24 xs j).f1) := by rw [cell_cells hbx]; rfl
          have x2 : w2.cell? ⟨wr.heap.size, 2, none⟩ = some (.int .u32 (rd_T24 xs j).f2) := by rw [cell_cells hbx]; rfl
          have hin : i < xs.length := by omega
          have hfit := Aside0.mk (show i.toNat * 3 + 3 ≤ cur.length by have := HSZ.out; omega)
          have hai := Aside0.mk (show ad.add (i.toNat * 3) = ⟨g, i.toNat * 3, none⟩ by rw [HAD.out, Addr.add_lit, Nat.zero_add])
          clear hb' hcall hbx g0 g1 g2 HHp HB
          go_wp2_with (first | ((with_reducible refine gate_store (t := 24) (p := 33) rfl ?_); go_loud (refine wpList_storeK rfl 24 (.tmp 33) (.tmp 32) rfl 3 size24 g (i.toNat * 3) (enc24 (rd_T24 xs j)) ?hx ?hy rfl cur 24 HH2.out hfit.out (plain24.one _) w0.heap.size w0 HB2.out HBG.out ?_); (case hx => show Value.pointer (some (ad.add (i.toNat * 3))) = _; rw [hai.out]); (case hy => rfl); intro w3 HH3 HB3 HG3))
          go_roundw
          case measure => simp [intOf]; omega
          case rel =>
            refine ⟨i + 1, j + 1, _, by go_num, by go_num, by omega, by omega, by omega, ?_, ⟨fun m h1 h2 => ?_⟩, HH3, ⟨?_⟩, HB3⟩
            · obtain ⟨hk1, hk2⟩ := HK.out
              rw [htj.out, List.filter_append, show [rd_T24 xs j].filter (fun x => !p x) = [rd_T24 xs j] by simp [HQ.out], show (i + 1).toNat = i.toNat + 1 by omega]
              exact ⟨by rw [List.length_append, hk1]; rfl, keep_row cur _ i.toNat (rd_T24 xs j) hk1 hk2 hfit.out⟩
            · rw [keep_high cur i.toNat m _ (by omega) hfit.out]
              exact HH.out m (by omega) h2
            · rw [length_splice _ _ _ (by rw [enc24_len]; exact hfit.out)]
              exact HSZ.out
      · have hje : j = xs.length := by omega
        subst hje
        have hci : ¬ (c = i.toNat) := by omega
        have hz1 := Aside0.mk (show ∀ v ∈ (Value.agg #[.int .i64 0, .int .i64 0, .int .u32 0]).cells.toList, v.oneCell' = true from plain24.one z24)
        have hin : i ≤ xs.length := by omega
        have hfit := Aside0.mk (show i.toNat * 3 + (xs.length - i.toNat) * 3 ≤ cur.length by have := HSZ.out; omega)
        have hai := Aside0.mk (show ad.add (i.toNat * 3) = ⟨g, i.toNat * 3, none⟩ by rw [HAD.out, Addr.add_lit, Nat.zero_add])
        go_wp2_with (first | ((with_reducible refine gate_builtin (b := .clear) (xs := #[.tmp 38]) rfl ?_); go_loud (refine wpList_clearK rfl (.tmp 38) 32 24 3 (.agg #[.int .i64 0, .int .i64 0, .int .u32 0]) rfl Try.underlying32 zero24 rfl hz1.out (ad.add (i.toNat * 3)) g (i.toNat * 3) (xs.length - i.toNat) (c - i.toNat) (fun _ => hai.out) rfl cur 24 HHp.out hfit.out w0.heap.size w0 HB.out HBG.out ?_); intro w3 cur3 hl3 HT3 HH3 HB3))
        go_ret
        obtain ⟨hk1, hk2⟩ := HK.out
        rw [show (xs.length : Int).toNat = xs.length by omega, List.take_length] at hk1 hk2
        refine ⟨.slice (some ad) i.toNat c, rfl, plain24.ofOwn (fun _ _ => trivial) ?_, HB3.out⟩
        rw [HAD.out]
        refine ⟨by rw [flat24_len], .inr ⟨g, c, cur3.toArray, by rw [hk1], HBG.out, HH3.out, by rw [hk1]; omega, hc63, by rw [List.size_toArray, hl3]; exact HSZ.out, ?_⟩⟩
        rw [hk1]
        exact HT3.out.trans hk2

end Go.Proofs.Ytbljhjgmpldncaa.PR
