/- Contracts of the program's functions, one plain Lean function for each, written by a program of this session's over the kit's print; Lean checks every line. -/
import Derived.Test.YtbljhjgmpldncaaPR0
import Derived.Test.YtbljhjgmpldncaaPR4
import Derived.Test.YtbljhjgmpldncaaPR5
import Derived.Test.YtbljhjgmpldncaaPR11
namespace Go.Proofs.Ytbljhjgmpldncaa.PR
open Go.RowKit Go.Proofs.YtbljhjgmpldncaaW.PrintWords Go.Proofs.YtbljhjgmpldncaaW.PrintLast Go.Proofs.YtbljhjgmpldncaaW.PrintMore
attribute [local go_sem] max2_int min2_int max_two min_two max_three min_three max_four min_four   -- for this text's walks alone
set_option linter.unusedVariables false
set_option linter.unusedSimpArgs false

/-! ### slices.Insert (34) of one element into a row of the call's own: by hand -/
theorem enc24_len (x : S24) : (enc24 x).length = 3 := rfl
theorem flat24_len (xs : List S24) : (xs.flatMap enc24).length = xs.length * 3 := (reps_of_flat (R := fun x cs => cs = enc24 x) (fun _ _ => Iff.rfl) enc24_len xs).1
theorem flat24_take (xs : List S24) (i : Nat) : (xs.flatMap enc24).take (i * 3) = (xs.take i).flatMap enc24 := by
  induction xs generalizing i with
  | nil => simp
  | cons y ys ih =>
    cases i with
    | zero => simp
    | succ i =>
      rw [List.flatMap_cons, List.take_succ_cons, List.flatMap_cons, ← ih, List.take_append, List.take_of_length_le (by rw [enc24_len]; omega), enc24_len, show (i + 1) * 3 - 3 = i * 3 by omega]
theorem flat24_drop (xs : List S24) (i : Nat) : (xs.flatMap enc24).drop (i * 3) = (xs.drop i).flatMap enc24 := by
  induction xs generalizing i with
  | nil => simp
  | cons y ys ih =>
    cases i with
    | zero => simp
    | succ i =>
      rw [List.flatMap_cons, List.drop_succ_cons, ← ih, List.drop_append, List.drop_eq_nil_of_le (by rw [enc24_len]; omega), List.nil_append, enc24_len, show (i + 1) * 3 - 3 = i * 3 by omega]
theorem flat24_one (xs : List S24) : ∀ u ∈ xs.flatMap enc24, u.oneCell' = true := fun u hu => by
  obtain ⟨x, _, h⟩ := List.mem_flatMap.1 hu
  exact plain24.one x u h
theorem size24 : (Try.prog.info? 24).map (·.size) = some 3 := by kernel_rfl
theorem shape_cells {w : World} {g : Nat} {cs : Array Value} {t : TypeId} (h : w.heap[g]? = some (.cells cs t (0, 0))) : w.shape? g = some (t, cs.size) := by
  simp [World.shape?, h]
theorem frozen_cells {w : World} {g : Nat} {cs : Array Value} {t : TypeId} (h : w.heap[g]? = some (.cells cs t (0, 0))) (j : Nat) : w.frozen? ⟨g, j, none⟩ = false := by
  simp [World.frozen?, h]
theorem cell_cells {w : World} {g : Nat} {cs : Array Value} {t : TypeId} (h : w.heap[g]? = some (.cells cs t (0, 0))) (j : Nat) : w.cell? ⟨g, j, none⟩ = cs[j]? := by
  simp [World.cell?, h]
theorem overlaps_apart (w : World) (vb g p n c m vc : Nat) {cs cv : Array Value} {t t' : TypeId} (hv : w.heap[vb]? = some (.cells cv t (0, 0))) (hg : w.heap[g]? = some (.cells cs t' (0, 0))) (hne : vb ≠ g) (hs : cs.size ≠ 0) :
    (callFunc 48 #[.slice (some ⟨vb, 0, none⟩) m vc, .slice (some ⟨g, p, none⟩) n c]).run Try.prog w = .ok (.value (.bool false)) w := by
  rw [run_callFunc_extern Try.func48 (by kernel_rfl) (by kernel_rfl) (by kernel_rfl) (e := Extern.SlicesOverlaps.overlaps #[32, 32] #[4]) (by kernel_rfl),
    Lib.run_overlaps_apart w 32 4 24 Try.underlying32 3 Try.sizeOf24 ⟨vb, 0, none⟩ ⟨g, p, none⟩ m vc n c hne t t' cv.size cs.size (shape_cells hv) (shape_cells hg) hs (frozen_cells hv 0) (frozen_cells hv _)]
  rfl
set_option maxHeartbeats 2000000 in
set_option maxRecDepth 100000 in
theorem insert_end (w0 W : World) (A : Option Addr) (c : Nat) (xs : List S24) (x : S24) (vb vc : Nat) (hR : Kd.R k24 24 W w0.heap.size (fun _ => True) (.slice A xs.length c) xs) (hB : Below w0.heap.size w0 W) (hv : Kd.C k24 W (some ⟨vb, 0, none⟩) 1 [x]) (hl : xs.length + 1 < 5864062014805) :
    Calls Try.prog 34 #[.slice A xs.length c, .int .i64 (xs.length : Int), .slice (some ⟨vb, 0, none⟩) 1 vc] W fun e w' => ∃ v, e = .returned v ∧ Kd.R k24 24 w' w0.heap.size (fun _ => True) v (xs ++ [x]) ∧ Below w0.heap.size w0 w' := by
  have hcap : xs.length ≤ c ∧ c ≤ 9223372036854775807 ∧ (A = none → xs.length = 0) := by
    rcases (plain24.own hR).2 with ⟨h1, h2⟩ | ⟨g, cap, cur, h1, _, _, h3, h4, _⟩
    · injection h1 with _ _ h1
      subst h1
      exact ⟨by omega, by omega, fun _ => h2⟩
    · injection h1 with hA hn hc
      subst hc
      exact ⟨h3, h4, fun h => by subst h; cases hA⟩
  obtain ⟨hcap1, hcap2, hA0⟩ := hcap
  have HR := Aside0.mk hR
  have HB := Aside0.mk hB
  have HV := Aside0.mk hv
  have HL := Aside0.mk hl
  clear hR hB hv hl
  cases A with
  | none =>
    obtain rfl : xs = [] := List.length_eq_zero_iff.1 (hA0 rfl)
    simp only [List.length_nil, Int.ofNat_zero] at *
    go_enter Try.func34, Try.ntmps34
    go_wp2_with (first | ((with_reducible refine gate_builtin (b := .append) (xs := #[.tmp 23, .tmp 24]) rfl ?_); at_builtin; go_loud (refine Kd.R_append_rows k24 (w0 := w0) w0.heap.size rfl (.tmp 23) (.tmp 24) 32 24 (.agg #[(.int .i64 0), (.int .i64 0), (.int .u32 0)]) 24 rfl Try.underlying32 info24 rfl (by decide) (by omega) _ ([] : List S24) [x] _ _ _ (fun _ => True) (fun _ => False) rfl rfl HR.out ?aR (fun _ _ h => h) (fun _ h => h.elim) ?aF HB.out HB.out.size ?aL ?_); (case aR => exact HV.out); (case aF => exact (fun _ _ => trivial)); (case aL => have := HL.out; first | omega | (simp; done)); intro v177 w3 ho hb hg hat; have HO3 := Aside0.mk ho; have HB3 := Aside0.mk hb; clear ho hb hg hat))
    go_ret
    exact ⟨_, rfl, HO3.out, HB3.out⟩
  | some ad =>
    clear hA0
    by_cases hc : c = xs.length
    · subst hc
      go_enter Try.func34, Try.ntmps34
      go_wp2_with (first | ((with_reducible refine gate_builtin (b := .append) (xs := #[.tmp 23, .tmp 24]) rfl ?_); at_builtin; go_loud (refine Kd.R_append_rows k24 (w0 := w0) w0.heap.size rfl (.tmp 23) (.tmp 24) 32 24 (.agg #[(.int .i64 0), (.int .i64 0), (.int .u32 0)]) 24 rfl Try.underlying32 info24 rfl (by decide) (by omega) _ xs [x] _ _ _ (fun _ => True) (fun _ => False) rfl rfl HR.out ?aR (fun _ _ h => h) (fun _ h => h.elim) ?aF HB.out HB.out.size ?aL ?_); (case aR => exact HV.out); (case aF => exact (fun _ _ => trivial)); (case aL => have := HL.out; first | omega | (simp; done)); intro v177 w3 ho hb hg hat; have HO3 := Aside0.mk ho; have HB3 := Aside0.mk hb; clear ho hb hg hat))
      go_ret
      exact ⟨_, rfl, HO3.out, HB3.out⟩
    · go_enter Try.func34, Try.ntmps34
      go_wp2_with (first | ((with_reducible refine gate_builtin (b := .append) (xs := #[.tmp 23, .tmp 24]) rfl ?_); at_builtin; go_loud (refine Kd.R_append_rows k24 (w0 := w0) w0.heap.size rfl (.tmp 23) (.tmp 24) 32 24 (.agg #[(.int .i64 0), (.int .i64 0), (.int .u32 0)]) 24 rfl Try.underlying32 info24 rfl (by decide) (by omega) _ xs [x] _ _ _ (fun _ => True) (fun _ => False) rfl rfl HR.out ?aR (fun _ _ h => h) (fun _ h => h.elim) ?aF HB.out HB.out.size ?aL ?_); (case aR => exact HV.out); (case aF => exact (fun _ _ => trivial)); (case aL => have := HL.out; first | omega | (simp; done)); intro v177 w3 ho hb hg hat; have HO3 := Aside0.mk ho; have HB3 := Aside0.mk hb; clear ho hb hg hat))
      go_ret
      exact ⟨_, rfl, HO3.out, HB3.out⟩
set_option maxHeartbeats 2000000 in
set_option maxRecDepth 100000 in
theorem insert_shift (w0 W : World) (g c i : Nat) (xs : List S24) (x : S24) (vb vc : Nat) (hR : Kd.R k24 24 W w0.heap.size (fun _ => True) (.slice (some ⟨g, 0, none⟩) xs.length c) xs) (hB : Below w0.heap.size w0 W) {cv : Array Value} (hv : W.heap[vb]? = some (.cells cv 24 (0, 0))) (hvx : ∀ (j : Nat) (v : Value), (enc24 x)[j]? = some v → cv[j]? = some v) (hne : vb ≠ g) (hi : i < xs.length) (hroom : xs.length + 1 ≤ c) :
    Calls Try.prog 34 #[.slice (some ⟨g, 0, none⟩) xs.length c, .int .i64 (i : Int), .slice (some ⟨vb, 0, none⟩) 1 vc] W fun e w' => ∃ v, e = .returned v ∧ Kd.R k24 24 w' w0.heap.size (fun _ => True) v (xs.take i ++ x :: xs.drop i) ∧ Below w0.heap.size w0 w' := by
  obtain ⟨cur, hh, hbg, hcm, hsz, htk⟩ : ∃ cur : List Value, W.heap[g]? = some (.cells cur.toArray 24 (0, 0)) ∧ w0.heap.size ≤ g ∧ c ≤ maxLen ∧ cur.length = c * 3 ∧ cur.take (xs.length * 3) = xs.flatMap enc24 := by
    rcases (plain24.own hR).2 with ⟨h1, h2⟩ | ⟨g', cap, cur, h1, h2, h3, _, h5, h6, h7⟩
    · cases h1
    · injection h1 with hA _ hc
      injection hA with hA
      injection hA with hA
      subst hA
      subst hc
      exact ⟨cur.toList, h3, h2, h5, by simpa using h6, h7⟩
  have hov : ∀ lb cb, (callFunc 48 #[.slice (some ⟨vb, 0, none⟩) 1 vc, .slice (some ⟨g, (i + 1) * 3, none⟩) lb cb]).run Try.prog W = .ok (.value (.bool false)) W := fun lb cb => overlaps_apart W vb g _ lb cb 1 vc hv hh hne (by rw [List.size_toArray]; omega)
  have hc63 : c ≤ 9223372036854775807 := hcm
  have HHt := Aside0.mk hh
  have HT := Aside0.mk htk
  have HR := Aside0.mk hR
  have HB := Aside0.mk hB
  have HV := Aside0.mk hv
  have HX := Aside0.mk hvx
  have HBG := Aside0.mk hbg
  have HSZ := Aside0.mk hsz
  clear hR hB hv hvx hh htk hbg hcm hsz
  have hw1 : IntKind.i64.wrap ((i : Int) + 1) = (i : Int) + 1 := by rw [IntKind.wrap_i64]; omega
  have hb1 : (0 : Int) ≤ (i : Int) + 1 := by omega
  have htn : ((i : Int) + 1).toNat = i + 1 := by omega
  have hb2 : ¬ (c = i + 1) := by omega
  have hb3 : (i : Int) + 1 ≤ (xs.length : Int) + 1 := by omega
  have hb4 : ¬ (c = i) := by omega
  have hb5 : (i : Int) ≤ (xs.length : Int) + 1 := by omega
  go_enter Try.func34, Try.ntmps34
  go_wp2_with (simp only [hov])
  have hlf := flat24_len xs
  have hT1 := Aside0.mk (show ((cur.take (xs.length * 3)).drop (i * 3)).length = (xs.length - i) * 3 by rw [HT.out, List.length_drop, hlf]; omega)
  clear hov hlf
  go_region_law (go_loud (refine step_copyK rfl (.tmp 73) (.tmp 76) 32 32 rfl 24 3 Try.underlying32 size24 g ((i + 1) * 3) (xs.length + 1 - (i + 1)) (c - (i + 1)) ⟨g, i * 3, none⟩ (xs.length + 1 - i) (c - i) (by simp [Act.eval, Act.put]) (by simp [Act.eval, Act.put]) cur 24 ?hg ((cur.take (xs.length * 3)).drop (i * 3)) ?hn ?hsrc ?hfit ?h1 w0.heap.size w0 ?hb HBG.out ?_); (case hg => exact HHt.out); (case hn => have := hT1.out; rw [this]; show _ = min _ _ * 3; rw [Nat.min_eq_right (by omega)]; omega); (case hsrc => exact fun j v hj => by rw [Addr.add_lit]; show W.cell? _ = _; rw [cell_cells HHt.out]; simp only [List.getElem?_drop, List.getElem?_take] at hj; split at hj; (· simpa using hj); (· cases hj)); (case hfit => have := hT1.out; have := HSZ.out; omega); (case h1 => have := HT.out; rw [this]; exact fun v hv => flat24_one xs v (List.mem_of_mem_drop hv)); (case hb => exact below_drew1 HB.out); intro w1 HH1 HB1 HG1)
  have HV1 := Aside0.mk (show w1.heap[vb]? = some (.cells cv 24 (0, 0)) from (HG1.out.block vb (Array.getElem?_eq_some_iff.1 HV.out).1 (fun e => hne (by injection e))).trans HV.out)
  have hls := Aside0.mk (length_splice cur ((i + 1) * 3) ((cur.take (xs.length * 3)).drop (i * 3)) (by have := hT1.out; have := HSZ.out; omega))
  clear HG1 HHt HV HB
  go_wp2_with (first | ((with_reducible refine gate_builtin (b := .copy) (xs := #[.tmp 80, .tmp 81]) rfl ?_); go_loud (refine wpList_copyK rfl (.tmp 80) (.tmp 81) 32 32 rfl 24 3 Try.underlying32 size24 g (i * 3) (xs.length + 1 - i) (c - i) ⟨vb, 0, none⟩ 1 vc rfl rfl (splice cur ((i + 1) * 3) ((cur.take (xs.length * 3)).drop (i * 3))) 24 ?hg (enc24 x) ?hn ?hsrc ?hfit ?h1 w0.heap.size w0 ?hb HBG.out ?_); (case hg => exact HH1.out); (case hn => show 3 = min _ _ * 3; rw [Nat.min_eq_left (by omega)]); (case hsrc => exact fun j v hj => by rw [Addr.add_lit, cell_cells HV1.out, Nat.zero_add]; exact HX.out j v hj); (case hfit => have := hls.out; have := HSZ.out; rw [enc24_len]; omega); (case h1 => exact plain24.one x); (case hb => exact HB1.out); intro w2 HH2 HB2 HG2))
  go_ret
  refine ⟨.slice (some ⟨g, 0, none⟩) (xs.length + 1) c, rfl, plain24.ofOwn (fun _ _ => trivial) ?_, HB2.out⟩
  have hl1 : (xs.take i ++ x :: xs.drop i).length = xs.length + 1 := by simp; omega
  refine ⟨by rw [flat24_len], .inr ⟨g, c, _, by rw [hl1], HBG.out, HH2.out, by rw [hl1]; exact hroom, hc63, ?_, ?_⟩⟩
  · have := hls.out
    rw [List.size_toArray, length_splice _ _ _ (by rw [enc24_len]; have := HSZ.out; omega), this]
    exact HSZ.out
  · rw [hl1, splice_shift cur i xs.length 3 (enc24 x) rfl (by omega) (by have := HSZ.out; omega), HT.out, flat24_take, flat24_drop, List.flatMap_append, List.flatMap_cons]
set_option maxHeartbeats 2000000 in
set_option maxRecDepth 100000 in
theorem insert_grow (w0 W : World) (g c i : Nat) (xs : List S24) (x : S24) (vb vc : Nat) (hR : Kd.R k24 24 W w0.heap.size (fun _ => True) (.slice (some ⟨g, 0, none⟩) xs.length c) xs) (hB : Below w0.heap.size w0 W) {cv : Array Value} (hv : W.heap[vb]? = some (.cells cv 24 (0, 0))) (hvx : ∀ (j : Nat) (v : Value), (enc24 x)[j]? = some v → cv[j]? = some v) (hi : i < xs.length) (hroom : ¬ xs.length + 1 ≤ c) (hl : xs.length + 1 < 5864062014805) :
    Calls Try.prog 34 #[.slice (some ⟨g, 0, none⟩) xs.length c, .int .i64 (i : Int), .slice (some ⟨vb, 0, none⟩) 1 vc] W fun e w' => ∃ v, e = .returned v ∧ Kd.R k24 24 w' w0.heap.size (fun _ => True) v (xs.take i ++ x :: xs.drop i) ∧ Below w0.heap.size w0 w' := by
  obtain ⟨cur, hh, hbg, hcm, hcn, hsz, htk⟩ : ∃ cur : List Value, W.heap[g]? = some (.cells cur.toArray 24 (0, 0)) ∧ w0.heap.size ≤ g ∧ c ≤ maxLen ∧ xs.length ≤ c ∧ cur.length = c * 3 ∧ cur.take (xs.length * 3) = xs.flatMap enc24 := by
    rcases (plain24.own hR).2 with ⟨h1, h2⟩ | ⟨g', cap, cur, h1, h2, h3, h4, h5, h6, h7⟩
    · cases h1
    · injection h1 with hA _ hc
      injection hA with hA
      injection hA with hA
      subst hA
      subst hc
      exact ⟨cur.toList, h3, h2, h5, h4, by simpa using h6, h7⟩
  have hcx : c = xs.length := by omega
  subst hcx
  have hgW : g < W.heap.size := (Array.getElem?_eq_some_iff.1 hh).1
  have hvW : vb < W.heap.size := (Array.getElem?_eq_some_iff.1 hv).1
  have hlf := flat24_len xs
  have hT1 := Aside0.mk (show ((cur.take (xs.length * 3)).drop (i * 3)).length = (xs.length - i) * 3 by rw [htk, List.length_drop, hlf]; omega)
  have hT0 := Aside0.mk (show ((cur.take (xs.length * 3)).take (i * 3)).length = i * 3 by rw [htk, List.length_take, hlf]; omega)
  have HHt := Aside0.mk hh
  have HT := Aside0.mk htk
  have HB := Aside0.mk hB
  have HV := Aside0.mk hv
  have HX := Aside0.mk hvx
  have HSZ := Aside0.mk hsz
  have HL := Aside0.mk hl
  have HGW := Aside0.mk hgW
  have HVW := Aside0.mk hvW
  have hc63 : xs.length ≤ 9223372036854775807 := hcm
  clear hR hB hv hvx hh htk hbg hcm hsz hlf hgW hvW hcn hroom
  have hw1 : IntKind.i64.wrap ((i : Int) + 1) = (i : Int) + 1 := by rw [IntKind.wrap_i64]; omega
  have hb1 : (0 : Int) ≤ (i : Int) + 1 := by omega
  have htn : ((i : Int) + 1).toNat = i + 1 := by omega
  have hb4 : ¬ (xs.length = i) := by omega
  have hik : i + (xs.length + 1 - i) = xs.length + 1 := by omega
  have hb6 : (i : Int) ≤ (xs.length : Int) := by omega
  have hb5 : (i : Int) ≤ (xs.length : Int) + 1 := by omega
  go_enter Try.func34, Try.ntmps34
  go_wp2_with (first | ((with_reducible refine gate_builtin (b := .append) (xs := #[.tmp 34, .tmp 40]) rfl ?_); fail) | ((with_reducible refine gate_builtin (b := .append) (xs := #[.tmp 34, .tmp 39]) rfl ?_); go_loud (refine wpList_append_zeros_new rfl (.tmp 34) (.tmp 39) 32 3 24 (.agg #[(.int .i64 0), (.int .i64 0), (.int .u32 0)]) 3 24 rfl Try.underlying32 Try.underlying3 info24 rfl (by decide) ⟨g, 0, none⟩ i xs.length (xs.length + 1 - i) _ rfl rfl ?hu ((cur.take (xs.length * 3)).take (i * 3)) hT0.out ?hold ?hm ?hg ?hbig ?hmax ?_); (case hu => simp [Act.eval, Act.put]; omega); (case hold => exact fun j v hj => by rw [Addr.add_lit, cell_cells HHt.out]; simp only [List.getElem?_take] at hj; split at hj; (· split at hj; (· simpa using hj); (· cases hj)); (· cases hj)); (case hm => omega); (case hg => omega); (case hbig => have := HL.out; omega); (case hmax => have := HL.out; unfold maxLen; omega); intro w1 G Z hG1 hG2 hZ hH1 hB1; rw [hik] at hG1 ⊢) | ((with_reducible refine gate_builtin (b := .copy) (xs := #[.tmp 43, .tmp 44]) rfl ?_); go_loud (refine wpList_copyK rfl (.tmp 43) (.tmp 44) 32 32 rfl 24 3 Try.underlying32 size24 W.heap.size (i * 3) (xs.length + 1 - i) (G - i) ⟨vb, 0, none⟩ 1 vc rfl rfl ((cur.take (xs.length * 3)).take (i * 3) ++ Z) 24 ?hg (enc24 x) ?hn ?hsrc ?hfit ?h1 W.heap.size W ?hb (Nat.le_refl _) ?_); (case hg => exact hH1.out); (case hn => show 3 = min _ _ * 3; rw [Nat.min_eq_left (by omega)]); (case hsrc => exact fun j v hj => by rw [Addr.add_lit, cell_cells ((hB1.out.block vb HVW.out).trans HV.out), Nat.zero_add]; exact HX.out j v hj); (case hfit => have := hZ.out; rw [enc24_len]; omega); (case h1 => exact plain24.one x); (case hb => exact hB1.out); intro w2 HH2 HB2 HG2; clear HG2))
  have hls := Aside0.mk (length_splice ((cur.take (xs.length * 3)).take (i * 3) ++ Z) (i * 3) (enc24 x) (by have := hZ.out; rw [enc24_len]; omega))
  clear HV HX hH1 hB1
  have hb7 : ¬ (G = i + 1) := by omega
  have hb8 : (i : Int) + 1 ≤ (xs.length : Int) + 1 := by omega
  go_region_law (go_loud (refine step_copyK rfl (.tmp 50) (.tmp 53) 32 32 rfl 24 3 Try.underlying32 size24 W.heap.size ((i + 1) * 3) (xs.length + 1 - (i + 1)) (G - (i + 1)) ⟨g, i * 3, none⟩ (xs.length - i) (xs.length - i) (by simp [Act.eval, Act.put]) (by simp [Act.eval, Act.put]) (splice ((cur.take (xs.length * 3)).take (i * 3) ++ Z) (i * 3) (enc24 x)) 24 ?hg ((cur.take (xs.length * 3)).drop (i * 3)) ?hn ?hsrc ?hfit ?h1 W.heap.size W ?hb (Nat.le_refl _) ?_); (case hg => exact HH2.out); (case hn => have := hT1.out; rw [this]; show _ = min _ _ * 3; rw [Nat.min_eq_left (by omega)]); (case hsrc => exact fun j v hj => by rw [Addr.add_lit]; show w2.cell? _ = _; rw [cell_cells ((HB2.out.block g HGW.out).trans HHt.out)]; simp only [List.getElem?_drop, List.getElem?_take] at hj; split at hj; (· simpa using hj); (· cases hj)); (case hfit => have := hT1.out; have := hls.out; have := hZ.out; omega); (case h1 => have := HT.out; rw [this]; exact fun v hv => flat24_one xs v (List.mem_of_mem_drop hv)); (case hb => exact below_drew1 HB2.out); intro w3 HH3 HB3 HG3)
  go_wp2_with fail
  go_ret
  refine ⟨.slice (some ⟨W.heap.size, 0, none⟩) (xs.length + 1) G, rfl, plain24.ofOwn (fun _ _ => trivial) ?_, below_step HB.out HB3.out⟩
  have hl1 : (xs.take i ++ x :: xs.drop i).length = xs.length + 1 := by simp; omega
  refine ⟨by rw [flat24_len], .inr ⟨W.heap.size, G, _, by rw [hl1], HB.out.size, HH3.out, by rw [hl1]; exact hG1, hG2, ?_, ?_⟩⟩
  · rw [List.size_toArray, length_splice _ _ _ (by have := hT1.out; have := hls.out; have := hZ.out; omega), hls.out]
    exact hZ.out
  · rw [hl1, splice_new _ Z i xs.length 3 (enc24 x) _ rfl hT0.out (by rw [hT1.out]; omega) (by omega) (by have := hZ.out; omega), HT.out, flat24_take, flat24_drop, List.flatMap_append, List.flatMap_cons]
theorem lit24 {W : World} {vb : Nat} {x : S24} (hv : W.heap[vb]? = some (.cells (enc24 x).toArray 24 (0, 0))) : Kd.C k24 W (some ⟨vb, 0, none⟩) 1 [x] := by
  have ho : Kd.R k24 24 W vb (fun _ => True) (.slice (some ⟨vb, 0, none⟩) 1 1) [x] := plain24.ofOwn (fun _ _ => trivial) ⟨rfl, .inr ⟨vb, 1, (enc24 x).toArray, rfl, Nat.le_refl _, hv, Nat.le_refl _, by unfold maxLen; omega, rfl, rfl⟩⟩
  exact (Kd.R_reads' ho).2.2
/-- slices.Insert of one element. -/
theorem insert_calls (w0 W : World) (A : Option Addr) (c : Nat) (xs : List S24) (i : Int) (x : S24) (vb : Nat) (hR : Kd.R k24 24 W w0.heap.size (fun _ => True) (.slice A xs.length c) xs) (hB : Below w0.heap.size w0 W) (hv : W.heap[vb]? = some (.cells (enc24 x).toArray 24 (0, 0))) (hne : ∀ g, A = some ⟨g, 0, none⟩ → vb ≠ g) (h0 : 0 ≤ i) (h1 : i ≤ xs.length) (hl : xs.length + 1 < 5864062014805) :
    Calls Try.prog 34 #[.slice A xs.length c, .int .i64 i, .slice (some ⟨vb, 0, none⟩) 1 1] W fun e w' => ∃ v, e = .returned v ∧ Kd.R k24 24 w' w0.heap.size (fun _ => True) v (xs.take i.toNat ++ x :: xs.drop i.toNat) ∧ Below w0.heap.size w0 w' := by
  obtain ⟨n, rfl⟩ := Int.eq_ofNat_of_zero_le h0
  by_cases he : n = xs.length
  · subst he
    refine (insert_end w0 W A c xs x vb 1 hR hB (lit24 hv) hl).mono ?_
    rintro e w' ⟨v, hv', hr, hb⟩
    refine ⟨v, hv', ?_, hb⟩
    rw [show (xs.length : Int).toNat = xs.length by omega, List.take_length, List.drop_length]
    exact hr
  · have hi : n < xs.length := by omega
    rcases (plain24.own hR).2 with ⟨_, h2⟩ | ⟨g, cap, cur, h2, _⟩
    · omega
    · injection h2 with hA _ hc
      subst hA
      have hvx : ∀ (j : Nat) (v : Value), (enc24 x)[j]? = some v → (enc24 x).toArray[j]? = some v := fun j v h => by rw [List.getElem?_toArray]; exact h
      by_cases hroom : xs.length + 1 ≤ c
      · exact insert_shift w0 W g c n xs x vb 1 hR hB hv hvx (hne g rfl) hi hroom
      · exact insert_grow w0 W g c n xs x vb 1 hR hB hv hvx hi hroom hl

end Go.Proofs.Ytbljhjgmpldncaa.PR
