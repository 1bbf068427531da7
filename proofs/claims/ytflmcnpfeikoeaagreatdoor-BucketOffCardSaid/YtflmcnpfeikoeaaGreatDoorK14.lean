/- CxM: the library's Insert of one element, at the program's types (printed by wip/tools/insert.py). -/
import Derived.Test.YtflmcnpfeikoeaaGreatDoorK13
import Derived.Test.YtflmcnpfeikoeaaGreatDoorK09
set_option linter.unusedVariables false
set_option maxRecDepth 100000
set_option maxHeartbeats 4000000
namespace Go.Cel
open Go.Proofs Go.IntWalk

theorem splice2 {α : Type} {i m : Nat} {E : List (Option α)} {A B : List α} {x : α} (h : E.take i = A.map some) (hA : A.length = i) (hm : m = i + 1 + B.length) (hl : m ≤ E.length) : (splice (i + 1) (B.map some) (splice i [some x] E)).take m = (A ++ x :: B).map some := by
  subst hm
  have h1 : (splice i [some x] E).take (i + 1) = A.map some ++ [some x] := by
    unfold splice
    rw [h, ← List.append_assoc, List.take_append_of_le_length (by simp; omega), List.take_of_length_le (by simp; omega)]
  unfold splice at h1 ⊢
  rw [h1, ← List.append_assoc, List.take_append_of_le_length (by simp; omega), List.take_of_length_le (by simp; omega)]
  simp
theorem splice3 {α : Type} {i m : Nat} {E : List (Option α)} {A B : List α} {x : α} (h : E.take i = A.map some) (hA : A.length = i) (hm : m = i + 1 + B.length) (hl : m ≤ E.length) : (splice i [some x] (splice (i + 1) (B.map some) E)).take m = (A ++ x :: B).map some := by
  subst hm
  have h1 : (splice (i + 1) (B.map some) E).take i = A.map some := by
    unfold splice
    rw [List.take_append_of_le_length (by simp; omega), List.take_take, Nat.min_eq_left (by omega), h]
  have h2 : (splice (i + 1) (B.map some) E).drop (i + 1) = B.map some ++ E.drop (i + 1 + B.length) := by
    unfold splice
    rw [List.drop_left' (by simp; omega)]
    simp
  have h3 : splice i [some x] (splice (i + 1) (B.map some) E) = A.map some ++ ([some x] ++ (B.map some ++ E.drop (i + 1 + B.length))) := by
    rw [← h1, ← h2]; rfl
  rw [h3, ← List.append_assoc, ← List.append_assoc, List.take_append_of_le_length (by simp; omega), List.take_of_length_le (by simp; omega)]
  simp

theorem ov135m : (Tryz.f135.name == "runtime.NumGoroutine") = false := by kernel_rfl
theorem ov135n : Extern.findNext Tryz.f135 = none := by kernel_rfl
theorem ov135f : Extern.find Tryz.f135 = some (Extern.SlicesOverlaps.overlaps Tryz.f135.params Tryz.f135.resultTypes) := by kernel_rfl

theorem ov169m : (Tryz.f169.name == "runtime.NumGoroutine") = false := by kernel_rfl
theorem ov169n : Extern.findNext Tryz.f169 = none := by kernel_rfl
theorem ov169f : Extern.find Tryz.f169 = some (Extern.SlicesOverlaps.overlaps Tryz.f169.params Tryz.f169.resultTypes) := by kernel_rfl


theorem Insert_Version (l : List Version) (v : Version) (i : Nat) (hi : i ≤ l.length) (hlen : l.length ≤ 100000) :
    Con Tryz.prog 147 [(0, .row 47 (l.map eVersion)), (1, .row 47 [eVersion v])] 2 [.l (.orow 0), bD (.int .i64 i), .l (.orow 1)] fun r o nx => r = .b (.l (.orow 2)) ∧ o = [(2, .row 47 ((l.take i ++ v :: l.drop i).map eVersion))] ∧ nx = 3 := by
  refine con_intro hT Tryz.func147 rfl (by kernel_rfl) rfl fun X hX => ?_
  have hml : (l.map eVersion).length = l.length := List.length_map ..
  have hroom : (l.length + 1) * (T 47).bytes ≤ room := Nat.le_trans (Nat.mul_le_mul_right _ (show l.length + 1 ≤ 100001 by omega)) (by decide)
  have hmx : l.length + 1 ≤ maxLen := by simp only [maxLen]; omega
  have hnew : (l.take i ++ v :: l.drop i).length = l.length + 1 := by simp; omega
  refine V_go (n := 1000) hT rfl ?_
  refine VL_U (n := 1000) hT (ylu_sliceRow hT rfl rfl rfl rfl rfl rfl (by omega) (by rw [hml]; omega)) rfl rfl rfl rfl rfl ?_
  refine V_condF rfl rfl ?_
  refine V_go (n := 1000) hT rfl ?_
  refine V_cond rfl (fun h1 => ?_) fun h1 => ?_
  · have hin : i = l.length := by rw [hml] at h1; simp at h1; omega
    refine V_go (n := 1000) hT rfl ?_
    refine VL_T (n := 1000) hT 3 rfl (tl_append2 (n := 2) hT rfl rfl rfl rfl rfl rfl rfl rfl rfl rfl rfl rfl ?_ ?_) rfl rfl rfl ?_
    · simpa using hroom
    · simpa using hmx
    refine ⟨.inr rfl, _, _, [(2, .row 47 (l.map eVersion ++ [eVersion v]))], Ghost.refl _ _, rfl, fun x hx => List.mem_cons.2 (.inl (List.mem_singleton.1 hx)), rfl, ?_, rfl⟩
    rw [hin, List.take_length, List.drop_length]; simp
  have hin : i < l.length := by rw [hml] at h1; simp at h1; omega
  refine V_spread hT 0 4 rfl rfl rfl (fun c => rfl) fun c hc hcm => ?_
  rw [hml] at hc
  have hel : (List.map some (l.map eVersion) ++ List.replicate (c - (l.map eVersion).length) none).length = c := by
    rw [List.length_append, List.length_map, List.length_replicate, hml]; omega
  have hti : (List.map some (l.map eVersion) ++ List.replicate (c - (l.map eVersion).length) none).take i = ((l.take i).map eVersion).map some := by
    rw [List.take_append_of_le_length (by rw [List.length_map]; omega), ← List.map_take, ← List.map_take]
  have hdi : (List.drop i (List.map some (l.map eVersion) ++ List.replicate (c - (l.map eVersion).length) none)).take ((l.drop i).map eVersion).length = ((l.drop i).map eVersion).map some := by
    rw [List.drop_append_of_le_length (by rw [List.length_map]; omega), List.take_append_of_le_length (by simp), ← List.map_drop, ← List.map_drop]
    rw [List.take_of_length_le (by simp)]
  have hw1 : IntKind.i64.wrap ((l.map eVersion).length + (1 : Int)) = ((l.length + 1 : Nat) : Int) := by rw [hml]; exact i64_succ (by simp only [maxLen] at hmx; omega)
  refine V_go (n := 1000) hT rfl ?_
  refine VL_Y (n := 1000) hT (yl_capOsl hT rfl rfl rfl rfl rfl rfl rfl) rfl rfl rfl ?_
  refine V_cond rfl (fun h2 => ?_) fun h2 => ?_
  · have hcn : c < l.length + 1 := by
      have h2' : decide (((List.map some (l.map eVersion) ++ List.replicate (c - (l.map eVersion).length) none).length - 0 : Nat) < IntKind.i64.wrap ((l.map eVersion).length + (1 : Int))) = true := h2
      rw [hel, hw1] at h2'; have := of_decide_eq_true h2'; omega
    refine V_go (n := 1000) hT rfl ?_
    refine VL_Y (n := 1000) hT (yl_sliceOsl (l := none) (h := some (i : Int)) hT 0 i 0 i rfl rfl rfl rfl rfl rfl rfl rfl rfl rfl rfl (by omega) (by rw [hel]; omega) rfl (by omega)) rfl rfl rfl ?_
    have hz : IntKind.i64.wrap (IntKind.i64.wrap ((l.map eVersion).length + (1 : Int)) - (i : Int)) = ((l.length + 1 - i : Nat) : Int) := by
      rw [hw1, i64_in _ (by simp only [maxLen] at hmx; omega)]; omega
    refine VL_T (n := 1000) hT 3 rfl (tl_appendExt (n := 2) (m := l.length + 1 - i) (fs := (l.take i).map eVersion) hT rfl rfl rfl rfl rfl rfl rfl rfl rfl rfl rfl rfl hti rfl hz (by omega) (by rw [hel]; omega) ?_ (by omega)) rfl rfl rfl ?_
    · rw [show i + (l.length + 1 - i) = l.length + 1 by omega]; exact hroom
    have hnl : ((l.take i).map eVersion ++ List.replicate (l.length + 1 - i) (T 47).zero).length = l.length + 1 := by simp; omega
    refine VL_spread hT 2 4 rfl rfl rfl (fun c => rfl) fun c2 hc2 hcm2 => ?_
    rw [hnl] at hc2
    have hel2 : (List.map some ((l.take i).map eVersion ++ List.replicate (l.length + 1 - i) (T 47).zero) ++ List.replicate (c2 - ((l.take i).map eVersion ++ List.replicate (l.length + 1 - i) (T 47).zero).length) none).length = c2 := by
      rw [List.length_append, List.length_map, List.length_replicate, hnl]; omega
    generalize hE2 : List.map some ((l.take i).map eVersion ++ List.replicate (l.length + 1 - i) (T 47).zero) ++ List.replicate (c2 - ((l.take i).map eVersion ++ List.replicate (l.length + 1 - i) (T 47).zero).length) none = E2 at hel2
    have ht2 : E2.take i = ((l.take i).map eVersion).map some := by
      rw [← hE2, List.take_append_of_le_length (by rw [List.length_map, hnl]; omega), ← List.map_take, List.take_append_of_le_length (by simp; omega), List.take_of_length_le (by simp; omega)]
    clear hE2
    refine VL_go (n := 1000) hT rfl ?_
    refine VL_Y (n := 1000) hT (yl_sliceOsl (l := some (i : Int)) (h := none) hT i (l.length + 1) i (l.length + 1) rfl rfl rfl rfl rfl rfl rfl rfl rfl rfl (by rw [hnl]; simp) (by omega) (by rw [hel2]; omega) (by omega) (by omega)) rfl rfl rfl ?_
    refine VL_T (n := 1000) hT 3 rfl (tl_copyOsl (fs := [eVersion v]) hT rfl rfl rfl rfl rfl rfl rfl rfl rfl (src_known hT rfl rfl rfl) (by simp; omega) (by rw [hel2]; omega)) rfl rfl rfl ?_
    refine VD_start ?_
    refine VD_go hT rfl rfl ?_
    have hwi : IntKind.i64.wrap ((i : Int) + 1) = ((i + 1 : Nat) : Int) := i64_succ (by omega)
    have hE3 : (splice i ([eVersion v].map some) E2).length = c2 := by rw [splice_length (by simp; omega)]; exact hel2
    refine VD_Y hT rfl rfl rfl rfl (yl_sliceOsl (l := some (IntKind.i64.wrap ((i : Int) + 1))) (h := none) hT (i + 1) (l.length + 1) (i + 1) (l.length + 1) rfl rfl rfl rfl rfl rfl rfl rfl rfl hwi (by rw [hnl]; simp) (by omega) (by rw [hE3]; omega) (by omega) (by omega)) rfl rfl rfl ?_
    refine VD_Y hT rfl rfl rfl rfl (yl_sliceOsl (l := some (i : Int)) (h := none) hT i l.length i l.length rfl rfl rfl rfl rfl rfl rfl rfl rfl rfl (by rw [hml]; simp) (by omega) (by rw [hel]; omega) (by omega) (by omega)) rfl rfl rfl ?_
    refine VD_T (os := [50, 53]) (gs := []) (ids := [2, 0]) (σ := ⟨[50, 53], [54], [2, 0], [2], []⟩) hT rfl rfl (tl_copyOsl (fs := (l.drop i).map eVersion) hT rfl rfl rfl rfl rfl rfl rfl rfl rfl (src_osl hT rfl rfl rfl rfl hdi) (by simp) (by rw [hE3]; omega)) rfl rfl 3 rfl rfl ?_
    refine VD_end (n := 1000) hT rfl (by kernel_rfl) (by kernel_rfl) rfl rfl rfl ?_
    refine ends_ghost (ghost_close (fs := (l.take i ++ v :: l.drop i).map eVersion) hT 6 2 rfl rfl rfl ?_ ?_ ?_ rfl) (ends_ghost (ghost_of [(0, 0), (1, 1), (2, 3)] (R := [(6, [], .b (.l (.orow 2)))]) (O := [(2, .row 47 ((l.take i ++ v :: l.drop i).map eVersion))]) (n1 := 3) rfl rfl rfl rfl rfl ⟨⟨rfl, rfl⟩, trivial⟩ ⟨rfl, trivial⟩) ⟨.inr rfl, _, _, [(2, .row 47 ((l.take i ++ v :: l.drop i).map eVersion))], Ghost.refl _ _, rfl, fun x hx => hx, rfl, rfl, rfl⟩)
    · rw [hnl]
      have := splice2 (m := l.length + 1) (B := (l.drop i).map eVersion) (x := eVersion v) ht2 (by simp; omega) (by simp; omega) (by rw [hel2]; omega)
      simpa using this
    · rw [splice_length (by rw [hE3]; simp; omega), hE3, hnl]; omega
    · rw [List.length_map, hnew]; exact hroom
  · have hcn : l.length + 1 ≤ c := by
      have h2' : decide (((List.map some (l.map eVersion) ++ List.replicate (c - (l.map eVersion).length) none).length - 0 : Nat) < IntKind.i64.wrap ((l.map eVersion).length + (1 : Int))) = false := h2
      rw [hel, hw1] at h2'; have := of_decide_eq_false h2'; omega
    generalize hE : List.map some (l.map eVersion) ++ List.replicate (c - (l.map eVersion).length) none = E at hel hti hdi
    clear hE
    refine V_go (n := 1000) hT rfl ?_
    refine VL_Y (n := 1000) hT (yl_sliceOsl (l := none) (h := some (IntKind.i64.wrap ((l.map eVersion).length + (1 : Int)))) hT 0 (l.length + 1) 0 (l.length + 1) rfl rfl rfl rfl rfl rfl rfl rfl rfl rfl hw1 (by omega) (by rw [hel]; omega) rfl (by omega)) rfl rfl rfl ?_
    have hwi : IntKind.i64.wrap ((i : Int) + 1) = ((i + 1 : Nat) : Int) := i64_succ (by omega)
    refine VL_Y (n := 1000) hT (yl_sliceOsl (l := some (IntKind.i64.wrap ((i : Int) + 1))) (h := none) hT (i + 1) (l.length + 1) (i + 1) (l.length + 1) rfl rfl rfl rfl rfl rfl rfl rfl rfl hwi rfl (by omega) (by rw [hel]; omega) (by omega) (by omega)) rfl rfl rfl ?_
    refine VL_Y (n := 1000) hT (yl_apart (t := 54) (t2 := 54) hT rfl rfl Tryz.func169 ov169m rfl ov169n rfl ov169f rfl rfl rfl rfl rfl rfl rfl rfl) rfl rfl rfl ?_
    refine V_condT rfl rfl ?_
    refine V_go (n := 1000) hT rfl ?_
    refine VD_start ?_
    refine VD_go hT rfl rfl ?_
    refine VD_Y hT rfl rfl rfl rfl (yl_sliceOsl (l := some (IntKind.i64.wrap ((i : Int) + 1))) (h := none) hT (i + 1) (l.length + 1) (i + 1) (l.length + 1) rfl rfl rfl rfl rfl rfl rfl rfl rfl hwi rfl (by omega) (by rw [hel]; omega) (by omega) (by omega)) rfl rfl rfl ?_
    refine VD_Y hT rfl rfl rfl rfl (yl_sliceOsl (l := some (i : Int)) (h := none) hT i (l.length + 1) i (l.length + 1) rfl rfl rfl rfl rfl rfl rfl rfl rfl rfl rfl (by omega) (by rw [hel]; omega) (by omega) (by omega)) rfl rfl rfl ?_
    refine VD_T (os := [73, 76]) (gs := []) (ids := [0]) (σ := ⟨[73, 76], [77], [0], [0], []⟩) hT rfl rfl (tl_copyOsl (fs := (l.drop i).map eVersion) hT rfl rfl rfl rfl rfl rfl rfl rfl rfl (src_osl hT rfl rfl rfl rfl hdi) (by simp; omega) (by rw [hel]; omega)) rfl rfl 2 rfl rfl ?_
    refine VD_end (n := 1000) hT rfl (by kernel_rfl) (by kernel_rfl) rfl rfl rfl ?_
    have hE3 : (splice (i + 1) (((l.drop i).map eVersion).map some) E).length = c := by rw [splice_length (by simp; omega)]; exact hel
    refine VL_Y (n := 1000) hT (yl_sliceOsl (l := some (i : Int)) (h := none) hT i (l.length + 1) i (l.length + 1) rfl rfl rfl rfl rfl rfl rfl rfl rfl rfl rfl (by omega) (by rw [hE3]; omega) (by omega) (by omega)) rfl rfl rfl ?_
    refine VL_T (n := 1000) hT 2 rfl (tl_copyOsl (fs := [eVersion v]) hT rfl rfl rfl rfl rfl rfl rfl rfl rfl (src_known hT rfl rfl rfl) (by simp; omega) (by rw [hE3]; omega)) rfl rfl rfl ?_
    refine ends_ghost (ghost_close (fs := (l.take i ++ v :: l.drop i).map eVersion) hT 6 0 rfl rfl rfl ?_ ?_ ?_ rfl) ⟨.inr rfl, _, _, [(2, .row 47 ((l.take i ++ v :: l.drop i).map eVersion))], Ghost.refl _ _, rfl, fun x hx => List.mem_cons.2 (.inl (List.mem_singleton.1 hx)), rfl, rfl, rfl⟩
    · have := splice3 (m := l.length + 1) (B := (l.drop i).map eVersion) (x := eVersion v) hti (by simp; omega) (by simp; omega) (by rw [hel]; omega)
      simpa using this
    · rw [splice_length (by rw [hE3]; simp; omega), hE3]; omega
    · rw [List.length_map, hnew]; exact hroom


theorem Insert_Part (l : List Part) (v : Part) (i : Nat) (hi : i ≤ l.length) (hlen : l.length ≤ 100000) :
    Con Tryz.prog 92 [(0, .row 40 (l.map ePart)), (1, .row 40 [ePart v])] 2 [.l (.orow 0), bD (.int .i64 i), .l (.orow 1)] fun r o nx => r = .b (.l (.orow 2)) ∧ o = [(2, .row 40 ((l.take i ++ v :: l.drop i).map ePart))] ∧ nx = 3 := by
  refine con_intro hT Tryz.func92 rfl (by kernel_rfl) rfl fun X hX => ?_
  have hml : (l.map ePart).length = l.length := List.length_map ..
  have hroom : (l.length + 1) * (T 40).bytes ≤ room := Nat.le_trans (Nat.mul_le_mul_right _ (show l.length + 1 ≤ 100001 by omega)) (by decide)
  have hmx : l.length + 1 ≤ maxLen := by simp only [maxLen]; omega
  have hnew : (l.take i ++ v :: l.drop i).length = l.length + 1 := by simp; omega
  refine V_go (n := 1000) hT rfl ?_
  refine VL_U (n := 1000) hT (ylu_sliceRow hT rfl rfl rfl rfl rfl rfl (by omega) (by rw [hml]; omega)) rfl rfl rfl rfl rfl ?_
  refine V_condF rfl rfl ?_
  refine V_go (n := 1000) hT rfl ?_
  refine V_cond rfl (fun h1 => ?_) fun h1 => ?_
  · have hin : i = l.length := by rw [hml] at h1; simp at h1; omega
    refine V_go (n := 1000) hT rfl ?_
    refine VL_T (n := 1000) hT 3 rfl (tl_append2 (n := 2) hT rfl rfl rfl rfl rfl rfl rfl rfl rfl rfl rfl rfl ?_ ?_) rfl rfl rfl ?_
    · simpa using hroom
    · simpa using hmx
    refine ⟨.inr rfl, _, _, [(2, .row 40 (l.map ePart ++ [ePart v]))], Ghost.refl _ _, rfl, fun x hx => List.mem_cons.2 (.inl (List.mem_singleton.1 hx)), rfl, ?_, rfl⟩
    rw [hin, List.take_length, List.drop_length]; simp
  have hin : i < l.length := by rw [hml] at h1; simp at h1; omega
  refine V_spread hT 0 2 rfl rfl rfl (fun c => rfl) fun c hc hcm => ?_
  rw [hml] at hc
  have hel : (List.map some (l.map ePart) ++ List.replicate (c - (l.map ePart).length) none).length = c := by
    rw [List.length_append, List.length_map, List.length_replicate, hml]; omega
  have hti : (List.map some (l.map ePart) ++ List.replicate (c - (l.map ePart).length) none).take i = ((l.take i).map ePart).map some := by
    rw [List.take_append_of_le_length (by rw [List.length_map]; omega), ← List.map_take, ← List.map_take]
  have hdi : (List.drop i (List.map some (l.map ePart) ++ List.replicate (c - (l.map ePart).length) none)).take ((l.drop i).map ePart).length = ((l.drop i).map ePart).map some := by
    rw [List.drop_append_of_le_length (by rw [List.length_map]; omega), List.take_append_of_le_length (by simp), ← List.map_drop, ← List.map_drop]
    rw [List.take_of_length_le (by simp)]
  have hw1 : IntKind.i64.wrap ((l.map ePart).length + (1 : Int)) = ((l.length + 1 : Nat) : Int) := by rw [hml]; exact i64_succ (by simp only [maxLen] at hmx; omega)
  refine V_go (n := 1000) hT rfl ?_
  refine VL_Y (n := 1000) hT (yl_capOsl hT rfl rfl rfl rfl rfl rfl rfl) rfl rfl rfl ?_
  refine V_cond rfl (fun h2 => ?_) fun h2 => ?_
  · have hcn : c < l.length + 1 := by
      have h2' : decide (((List.map some (l.map ePart) ++ List.replicate (c - (l.map ePart).length) none).length - 0 : Nat) < IntKind.i64.wrap ((l.map ePart).length + (1 : Int))) = true := h2
      rw [hel, hw1] at h2'; have := of_decide_eq_true h2'; omega
    refine V_go (n := 1000) hT rfl ?_
    refine VL_Y (n := 1000) hT (yl_sliceOsl (l := none) (h := some (i : Int)) hT 0 i 0 i rfl rfl rfl rfl rfl rfl rfl rfl rfl rfl rfl (by omega) (by rw [hel]; omega) rfl (by omega)) rfl rfl rfl ?_
    have hz : IntKind.i64.wrap (IntKind.i64.wrap ((l.map ePart).length + (1 : Int)) - (i : Int)) = ((l.length + 1 - i : Nat) : Int) := by
      rw [hw1, i64_in _ (by simp only [maxLen] at hmx; omega)]; omega
    refine VL_T (n := 1000) hT 3 rfl (tl_appendExt (n := 2) (m := l.length + 1 - i) (fs := (l.take i).map ePart) hT rfl rfl rfl rfl rfl rfl rfl rfl rfl rfl rfl rfl hti rfl hz (by omega) (by rw [hel]; omega) ?_ (by omega)) rfl rfl rfl ?_
    · rw [show i + (l.length + 1 - i) = l.length + 1 by omega]; exact hroom
    have hnl : ((l.take i).map ePart ++ List.replicate (l.length + 1 - i) (T 40).zero).length = l.length + 1 := by simp; omega
    refine VL_spread hT 2 2 rfl rfl rfl (fun c => rfl) fun c2 hc2 hcm2 => ?_
    rw [hnl] at hc2
    have hel2 : (List.map some ((l.take i).map ePart ++ List.replicate (l.length + 1 - i) (T 40).zero) ++ List.replicate (c2 - ((l.take i).map ePart ++ List.replicate (l.length + 1 - i) (T 40).zero).length) none).length = c2 := by
      rw [List.length_append, List.length_map, List.length_replicate, hnl]; omega
    generalize hE2 : List.map some ((l.take i).map ePart ++ List.replicate (l.length + 1 - i) (T 40).zero) ++ List.replicate (c2 - ((l.take i).map ePart ++ List.replicate (l.length + 1 - i) (T 40).zero).length) none = E2 at hel2
    have ht2 : E2.take i = ((l.take i).map ePart).map some := by
      rw [← hE2, List.take_append_of_le_length (by rw [List.length_map, hnl]; omega), ← List.map_take, List.take_append_of_le_length (by simp; omega), List.take_of_length_le (by simp; omega)]
    clear hE2
    refine VL_go (n := 1000) hT rfl ?_
    refine VL_Y (n := 1000) hT (yl_sliceOsl (l := some (i : Int)) (h := none) hT i (l.length + 1) i (l.length + 1) rfl rfl rfl rfl rfl rfl rfl rfl rfl rfl (by rw [hnl]; simp) (by omega) (by rw [hel2]; omega) (by omega) (by omega)) rfl rfl rfl ?_
    refine VL_T (n := 1000) hT 3 rfl (tl_copyOsl (fs := [ePart v]) hT rfl rfl rfl rfl rfl rfl rfl rfl rfl (src_known hT rfl rfl rfl) (by simp; omega) (by rw [hel2]; omega)) rfl rfl rfl ?_
    refine VD_start ?_
    refine VD_go hT rfl rfl ?_
    have hwi : IntKind.i64.wrap ((i : Int) + 1) = ((i + 1 : Nat) : Int) := i64_succ (by omega)
    have hE3 : (splice i ([ePart v].map some) E2).length = c2 := by rw [splice_length (by simp; omega)]; exact hel2
    refine VD_Y hT rfl rfl rfl rfl (yl_sliceOsl (l := some (IntKind.i64.wrap ((i : Int) + 1))) (h := none) hT (i + 1) (l.length + 1) (i + 1) (l.length + 1) rfl rfl rfl rfl rfl rfl rfl rfl rfl hwi (by rw [hnl]; simp) (by omega) (by rw [hE3]; omega) (by omega) (by omega)) rfl rfl rfl ?_
    refine VD_Y hT rfl rfl rfl rfl (yl_sliceOsl (l := some (i : Int)) (h := none) hT i l.length i l.length rfl rfl rfl rfl rfl rfl rfl rfl rfl rfl (by rw [hml]; simp) (by omega) (by rw [hel]; omega) (by omega) (by omega)) rfl rfl rfl ?_
    refine VD_T (os := [50, 53]) (gs := []) (ids := [2, 0]) (σ := ⟨[50, 53], [54], [2, 0], [2], []⟩) hT rfl rfl (tl_copyOsl (fs := (l.drop i).map ePart) hT rfl rfl rfl rfl rfl rfl rfl rfl rfl (src_osl hT rfl rfl rfl rfl hdi) (by simp) (by rw [hE3]; omega)) rfl rfl 3 rfl rfl ?_
    refine VD_end (n := 1000) hT rfl (by kernel_rfl) (by kernel_rfl) rfl rfl rfl ?_
    refine ends_ghost (ghost_close (fs := (l.take i ++ v :: l.drop i).map ePart) hT 6 2 rfl rfl rfl ?_ ?_ ?_ rfl) (ends_ghost (ghost_of [(0, 0), (1, 1), (2, 3)] (R := [(6, [], .b (.l (.orow 2)))]) (O := [(2, .row 40 ((l.take i ++ v :: l.drop i).map ePart))]) (n1 := 3) rfl rfl rfl rfl rfl ⟨⟨rfl, rfl⟩, trivial⟩ ⟨rfl, trivial⟩) ⟨.inr rfl, _, _, [(2, .row 40 ((l.take i ++ v :: l.drop i).map ePart))], Ghost.refl _ _, rfl, fun x hx => hx, rfl, rfl, rfl⟩)
    · rw [hnl]
      have := splice2 (m := l.length + 1) (B := (l.drop i).map ePart) (x := ePart v) ht2 (by simp; omega) (by simp; omega) (by rw [hel2]; omega)
      simpa using this
    · rw [splice_length (by rw [hE3]; simp; omega), hE3, hnl]; omega
    · rw [List.length_map, hnew]; exact hroom
  · have hcn : l.length + 1 ≤ c := by
      have h2' : decide (((List.map some (l.map ePart) ++ List.replicate (c - (l.map ePart).length) none).length - 0 : Nat) < IntKind.i64.wrap ((l.map ePart).length + (1 : Int))) = false := h2
      rw [hel, hw1] at h2'; have := of_decide_eq_false h2'; omega
    generalize hE : List.map some (l.map ePart) ++ List.replicate (c - (l.map ePart).length) none = E at hel hti hdi
    clear hE
    refine V_go (n := 1000) hT rfl ?_
    refine VL_Y (n := 1000) hT (yl_sliceOsl (l := none) (h := some (IntKind.i64.wrap ((l.map ePart).length + (1 : Int)))) hT 0 (l.length + 1) 0 (l.length + 1) rfl rfl rfl rfl rfl rfl rfl rfl rfl rfl hw1 (by omega) (by rw [hel]; omega) rfl (by omega)) rfl rfl rfl ?_
    have hwi : IntKind.i64.wrap ((i : Int) + 1) = ((i + 1 : Nat) : Int) := i64_succ (by omega)
    refine VL_Y (n := 1000) hT (yl_sliceOsl (l := some (IntKind.i64.wrap ((i : Int) + 1))) (h := none) hT (i + 1) (l.length + 1) (i + 1) (l.length + 1) rfl rfl rfl rfl rfl rfl rfl rfl rfl hwi rfl (by omega) (by rw [hel]; omega) (by omega) (by omega)) rfl rfl rfl ?_
    refine VL_Y (n := 1000) hT (yl_apart (t := 99) (t2 := 99) hT rfl rfl Tryz.func135 ov135m rfl ov135n rfl ov135f rfl rfl rfl rfl rfl rfl rfl rfl) rfl rfl rfl ?_
    refine V_condT rfl rfl ?_
    refine V_go (n := 1000) hT rfl ?_
    refine VD_start ?_
    refine VD_go hT rfl rfl ?_
    refine VD_Y hT rfl rfl rfl rfl (yl_sliceOsl (l := some (IntKind.i64.wrap ((i : Int) + 1))) (h := none) hT (i + 1) (l.length + 1) (i + 1) (l.length + 1) rfl rfl rfl rfl rfl rfl rfl rfl rfl hwi rfl (by omega) (by rw [hel]; omega) (by omega) (by omega)) rfl rfl rfl ?_
    refine VD_Y hT rfl rfl rfl rfl (yl_sliceOsl (l := some (i : Int)) (h := none) hT i (l.length + 1) i (l.length + 1) rfl rfl rfl rfl rfl rfl rfl rfl rfl rfl rfl (by omega) (by rw [hel]; omega) (by omega) (by omega)) rfl rfl rfl ?_
    refine VD_T (os := [73, 76]) (gs := []) (ids := [0]) (σ := ⟨[73, 76], [77], [0], [0], []⟩) hT rfl rfl (tl_copyOsl (fs := (l.drop i).map ePart) hT rfl rfl rfl rfl rfl rfl rfl rfl rfl (src_osl hT rfl rfl rfl rfl hdi) (by simp; omega) (by rw [hel]; omega)) rfl rfl 2 rfl rfl ?_
    refine VD_end (n := 1000) hT rfl (by kernel_rfl) (by kernel_rfl) rfl rfl rfl ?_
    have hE3 : (splice (i + 1) (((l.drop i).map ePart).map some) E).length = c := by rw [splice_length (by simp; omega)]; exact hel
    refine VL_Y (n := 1000) hT (yl_sliceOsl (l := some (i : Int)) (h := none) hT i (l.length + 1) i (l.length + 1) rfl rfl rfl rfl rfl rfl rfl rfl rfl rfl rfl (by omega) (by rw [hE3]; omega) (by omega) (by omega)) rfl rfl rfl ?_
    refine VL_T (n := 1000) hT 2 rfl (tl_copyOsl (fs := [ePart v]) hT rfl rfl rfl rfl rfl rfl rfl rfl rfl (src_known hT rfl rfl rfl) (by simp; omega) (by rw [hE3]; omega)) rfl rfl rfl ?_
    refine ends_ghost (ghost_close (fs := (l.take i ++ v :: l.drop i).map ePart) hT 6 0 rfl rfl rfl ?_ ?_ ?_ rfl) ⟨.inr rfl, _, _, [(2, .row 40 ((l.take i ++ v :: l.drop i).map ePart))], Ghost.refl _ _, rfl, fun x hx => List.mem_cons.2 (.inl (List.mem_singleton.1 hx)), rfl, rfl, rfl⟩
    · have := splice3 (m := l.length + 1) (B := (l.drop i).map ePart) (x := ePart v) hti (by simp; omega) (by simp; omega) (by rw [hel]; omega)
      simpa using this
    · rw [splice_length (by rw [hE3]; simp; omega), hE3]; omega
    · rw [List.length_map, hnew]; exact hroom

end Go.Cel

set_option linter.unusedVariables false
set_option maxRecDepth 100000
set_option maxHeartbeats 4000000
namespace Go.Cel
open Go.Proofs Go.IntWalk

/-- a chain and an error. -/
abbrev rLE (x : List Version × Int) : A := .tup [bD (dVersions x.1), bD (.int .i64 x.2)]
theorem rLE_nil (e : Int) : WkA (.tup [bD .nilsl, bD (.int .i64 e)]) (rLE ([], e)) := .tup ⟨.l (.d (.nil 47)), .refl _, trivial⟩

def overV (l : List Version) (v : Version) : List Version × Int := ({ v with ID := 0 } :: dropV l 0, 0)
theorem chain_over (l : List Version) (v : Version) (hl : l.length ≤ 100000) : Pure Tryz.prog 107 [bD (dVersions l), bVersion v] (rLE (overV l v)) := by
  have hd : (dropV l 0).length ≤ 100000 := Nat.le_trans (List.length_filter_le ..) hl
  refine pure_intro hT Tryz.func107 rfl (by kernel_rfl) rfl rfl fun X hX => ?_
  refine V_go (n := 1000) hT rfl ?_
  refine VD_start ?_
  refine VD_go hT rfl rfl ?_
  refine VD_T (os := [7]) (gs := []) (ids := []) (σ := ⟨[7], [8], [], [1], [1]⟩) hT rfl rfl (tl_call [] [(0, 1)] (chain_without l 0) rfl rfl rfl rfl trivial rfl (full_of rfl) rfl rfl rfl rfl) rfl rfl 2 rfl rfl ?_
  refine VD_T (os := [9]) (gs := []) (ids := []) (σ := ⟨[9], [10], [], [2], [2]⟩) hT rfl rfl (tl_buildSlice (n := 2) hT rfl rfl rfl rfl rfl rfl rfl rfl) rfl rfl 3 rfl rfl ?_
  refine VD_T (os := [8, 10]) (gs := []) (ids := [1, 2]) (σ := ⟨[8, 10], [11], [1, 2], [1, 2, 3], [3]⟩) hT rfl rfl (tl_call [(0, 1), (1, 2)] [(2, 3)] (Insert_Version (dropV l 0) { v with ID := 0 } 0 (Nat.zero_le _) hd) rfl rfl rfl rfl ⟨rfl, rfl, trivial⟩ rfl (full_of rfl) rfl rfl rfl rfl) rfl rfl 4 rfl rfl ?_
  refine VD_end (n := 1000) hT rfl (by kernel_rfl) (by kernel_rfl) rfl rfl rfl ?_
  refine ends_ghost (ghost_freeze 3 rfl) (endsP rfl ?_)
  exact WkA.refl _

theorem chain_ahead1 (v x : Version) : Pure Tryz.prog 149 [bVersion x, bD (.eptr (eVersion v))] (dl (.bool (decide (v.ID ≤ x.ID)))) := by
  refine pure_intro hT Tryz.func149 rfl (by kernel_rfl) rfl rfl fun X _ => ?_
  refine V_go (n := 1000) hT rfl ?_
  exact endsP rfl (WkA.refl _)

def aheadV (l : List Version) (v : Version) : List Version × Int :=
  if v.ID == 0 then ([], 1) else if l.any (fun x => decide (v.ID ≤ x.ID)) then ([], 9) else (v :: l, 0)
theorem chain_ahead (l : List Version) (v : Version) (hl : l.length ≤ 100000) : Pure Tryz.prog 108 [bD (dVersions l), bVersion v] (rLE (aheadV l v)) := by
  refine pure_intro hT Tryz.func108 rfl (by kernel_rfl) rfl rfl fun X hX => ?_
  refine V_go (n := 1000) hT rfl ?_
  refine V_cond rfl (fun h1 => ?_) fun h1 => ?_
  · refine V_go (n := 1000) hT rfl ?_
    refine endsP rfl ?_
    have : aheadV l v = ([], 1) := by unfold aheadV; rw [if_pos h1]
    rw [this]; exact rLE_nil 1
  · refine V_go (n := 1000) hT rfl ?_
    refine VL_ghost hX (ghost_freeze 0 rfl) ?_
    refine VL_Y (n := 1000) hT (yl_makeFunc rfl rfl rfl rfl) rfl rfl rfl ?_
    refine VL_Y (n := 1000) hT (yl_pure (has_Versions (f := 149) (first := []) (caps := [.eptr (eVersion v)]) (fun x => chain_ahead1 v x) l) rfl rfl rfl) rfl rfl rfl ?_
    refine V_cond rfl (fun h2 => ?_) fun h2 => ?_
    · refine V_go (n := 1000) hT rfl ?_
      refine endsP rfl ?_
      have : aheadV l v = ([], 9) := by unfold aheadV; rw [if_neg (by rw [h1]; simp), if_pos h2]
      rw [this]; exact rLE_nil 9
    · refine V_go (n := 1000) hT rfl ?_
      refine VD_start ?_
      refine VD_go hT rfl rfl ?_
      refine VD_T (os := [14]) (gs := []) (ids := []) (σ := ⟨[14], [15], [], [1], [1]⟩) hT rfl rfl (tl_call [] [(0, 1)] (clone_Versions l) rfl rfl rfl rfl trivial rfl (full_of rfl) rfl rfl rfl rfl) rfl rfl 2 rfl rfl ?_
      refine VD_T (os := [16]) (gs := []) (ids := []) (σ := ⟨[16], [17], [], [2], [2]⟩) hT rfl rfl (tl_buildSlice (n := 2) hT rfl rfl rfl rfl rfl rfl rfl rfl) rfl rfl 3 rfl rfl ?_
      refine VD_T (os := [15, 17]) (gs := []) (ids := [1, 2]) (σ := ⟨[15, 17], [18], [1, 2], [1, 2, 3], [3]⟩) hT rfl rfl (tl_call [(0, 1), (1, 2)] [(2, 3)] (Insert_Version l v 0 (Nat.zero_le _) hl) rfl rfl rfl rfl ⟨rfl, rfl, trivial⟩ rfl (full_of rfl) rfl rfl rfl rfl) rfl rfl 4 rfl rfl ?_
      refine VD_end (n := 1000) hT rfl (by kernel_rfl) (by kernel_rfl) rfl rfl rfl ?_
      refine ends_ghost (ghost_freeze 3 rfl) (endsP rfl ?_)
      have : aheadV l v = (v :: l, 0) := by unfold aheadV; rw [if_neg (by rw [h1]; simp), if_neg (by rw [h2]; simp)]
      rw [this]; exact WkA.refl _

def dropE (l : List Version) (id : Int) : List Version × Int :=
  if errOf (chainOK l) != 0 then ([], 1) else if decide (findV l id < 0) then ([], 4) else (dropV l id, 0)
theorem chain_Drop (l : List Version) (id : Int) : Pure Tryz.prog 86 [bD (dVersions l), bD (.int .u64 id)] (rLE (dropE l id)) := by
  refine pure_intro hT Tryz.func86 rfl (by kernel_rfl) rfl rfl fun X hX => ?_
  refine V_go (n := 1000) hT rfl ?_
  refine VL_Y (n := 1000) hT (yl_pure (chain_Check l) rfl rfl rfl) rfl rfl rfl ?_
  refine V_cond rfl (fun h1 => ?_) fun h1 => ?_
  · refine V_go (n := 1000) hT rfl ?_
    refine endsP rfl ?_
    have : dropE l id = ([], 1) := by unfold dropE; rw [if_pos h1]
    rw [this]; exact rLE_nil 1
  · refine V_go (n := 1000) hT rfl ?_
    refine VL_Y (n := 1000) hT (yl_pure (chain_find l id) rfl rfl rfl) rfl rfl rfl ?_
    refine V_cond rfl (fun h2 => ?_) fun h2 => ?_
    · refine V_go (n := 1000) hT rfl ?_
      refine endsP rfl ?_
      have : dropE l id = ([], 4) := by unfold dropE; rw [if_neg (by rw [h1]; simp), if_pos h2]
      rw [this]; exact rLE_nil 4
    · refine V_go (n := 1000) hT rfl ?_
      refine VL_T (n := 1000) hT 1 rfl (tl_call [] [(0, 0)] (chain_without l id) rfl rfl rfl rfl trivial rfl (full_of rfl) rfl rfl rfl rfl) rfl rfl rfl ?_
      refine ends_ghost (ghost_freeze 0 rfl) (endsP rfl ?_)
      have : dropE l id = (dropV l id, 0) := by unfold dropE; rw [if_neg (by rw [h1]; simp), if_neg (by rw [h2]; simp)]
      rw [this]; exact WkA.refl _

def layV (state : Int) (l : List Version) (v : Version) : List Version × Int := if state == 1 then aheadV l v else overV l v
def isState (state : Int) : Bool := state == 0 || state == 1 || state == 2
def putBad (l : List Version) (state : Int) (v : Version) : Bool := ((errOf (chainOK l) != 0 || !isState state) || !mayV v) || (decide ((0 : Int) < (l.length : Int)) && decide (v.At < (l.getD 0 default).At))
def putE (l : List Version) (state : Int) (v : Version) : List Version × Int :=
  if putBad l state v then ([], 1)
  else if (layV state l v).2 != 0 then ([], (layV state l v).2)
  else if decide ((20 : Int) < ((layV state l v).1.length : Int)) then ([], 6) else ((layV state l v).1, 0)

def layF (state : Int) : FuncId := if state == 1 then 108 else 107
abbrev laysM : List (B × B) := [(bD (.int .i64 0), bD (.fn 107 [] [])), (bD (.int .i64 1), bD (.fn 108 [] [])), (bD (.int .i64 2), bD (.fn 107 [] []))]
theorem lays_find (state : Int) : ∃ res, findM (.int .i64 state) laysM 0 = some res ∧ lookA (bD .nilfn) true res = .tup [bD (if isState state then .fn (layF state) [] [] else .nilfn), bD (.bool (isState state))] := by
  by_cases h0 : state = 0
  · subst h0; exact ⟨some (0, bD (.fn 107 [] [])), rfl, rfl⟩
  by_cases h1 : state = 1
  · subst h1; exact ⟨some (1, bD (.fn 108 [] [])), rfl, rfl⟩
  by_cases h2 : state = 2
  · subst h2; exact ⟨some (2, bD (.fn 107 [] [])), rfl, rfl⟩
  have e : isState state = false := by simp [isState, h0, h1, h2]
  refine ⟨none, ?_, by rw [e]; rfl⟩
  have e0 : (state == 0) = false := by simpa using h0
  have e1 : (state == 1) = false := by simpa using h1
  have e2 : (state == 2) = false := by simpa using h2
  simp [findM, keyEq, sameKind, e0, e1, e2]
theorem chain_lay (state : Int) (hs : isState state = true) (l : List Version) (v : Version) (hl : l.length ≤ 100000) : Pure Tryz.prog (layF state) [bD (dVersions l), bVersion v] (rLE (layV state l v)) := by
  unfold layF layV
  by_cases h1 : state = 1
  · subst h1; exact chain_ahead l v hl
  · have : (state == 1) = false := by simpa using h1
    rw [this]; exact chain_over l v hl
theorem chainOK_len {l : List Version} (h : (errOf (chainOK l) != 0) = false) : l.length ≤ 20 := by
  have h1 : chainOK l = true := by
    unfold errOf at h
    cases hc : chainOK l with
    | true => rfl
    | false => rw [hc] at h; simp at h
  unfold chainOK at h1
  simp at h1; omega

theorem chain_Put (l : List Version) (state : Int) (v : Version) : Pure Tryz.prog 52 [bD (dVersions l), bD (.int .i64 state), bVersion v] (rLE (putE l state v)) := by
  refine pure_intro hT Tryz.func52 rfl (by kernel_rfl) rfl rfl fun X hX => ?_
  refine V_go (n := 1000) hT rfl ?_
  refine VL_T (n := 1000) hT 2 rfl (tl_makeMap (n := 1) rfl rfl rfl) rfl rfl rfl ?_
  refine VL_T (n := 1000) hT 2 rfl (tl_mapUpdate hT (.inr rfl) rfl rfl rfl rfl rfl rfl rfl rfl rfl) rfl rfl rfl ?_
  refine VL_T (n := 1000) hT 2 rfl (tl_mapUpdate hT (.inr rfl) rfl rfl rfl rfl rfl rfl rfl rfl rfl) rfl rfl rfl ?_
  refine VL_T (n := 1000) hT 2 rfl (tl_mapUpdate hT (.inr rfl) rfl rfl rfl rfl rfl rfl rfl rfl rfl) rfl rfl rfl ?_
  obtain ⟨res, hf, hres⟩ := lays_find state
  cases hst : isState state with
  | false =>
    rw [hst] at hres
    refine VL_Y (n := 1000) hT (yl_lookup (zb := bD .nilfn) (zv := .nilFunc) (m := laysM) hT rfl rfl rfl rfl rfl rfl rfl hf (by kernel_rfl) (fun _ => .nilfn) hres) rfl rfl rfl ?_
    refine VD_start ?_
    refine VD_go hT rfl rfl ?_
    refine VD_Y hT rfl rfl rfl rfl (yl_pure (chain_Check l) rfl rfl rfl) rfl rfl rfl ?_
    refine VD_Y hT rfl rfl rfl rfl (yl_pure (chain_may v) rfl rfl rfl) rfl rfl rfl ?_
    refine VD_Y hT rfl rfl rfl rfl (Yl.given rfl fun h => yl_indexAddr (n := 0) (cs := eVersion (l.getD 0 default)) hT rfl rfl rfl rfl rfl rfl rfl ?_) rfl rfl rfl ?_
    · have h1 : decide ((0 : Int) < ((l.map eVersion).length : Int)) = true := h.1
      have h2 := of_decide_eq_true h1
      rw [List.length_map] at h2
      exact get_map (by omega)
    refine VD_end (n := 1000) hT rfl (by kernel_rfl) (by kernel_rfl) rfl rfl rfl ?_
    refine V_condT rfl ?_ ?_
    · show ((errOf (chainOK l) != 0 || !false) || _ || _) = true
      simp
    refine V_go (n := 1000) hT rfl ?_
    refine endsP rfl ?_
    have : putE l state v = ([], 1) := by
      have hb : putBad l state v = true := by unfold putBad; rw [hst]; simp
      unfold putE; rw [if_pos hb]
    rw [this]; exact rLE_nil 1
  | true =>
    rw [hst] at hres
    refine VL_Y (n := 1000) hT (yl_lookup (zb := bD .nilfn) (zv := .nilFunc) (m := laysM) hT rfl rfl rfl rfl rfl rfl rfl hf (by kernel_rfl) (fun _ => .nilfn) hres) rfl rfl rfl ?_
    refine VD_start ?_
    refine VD_go hT rfl rfl ?_
    refine VD_Y hT rfl rfl rfl rfl (yl_pure (chain_Check l) rfl rfl rfl) rfl rfl rfl ?_
    refine VD_Y hT rfl rfl rfl rfl (yl_pure (chain_may v) rfl rfl rfl) rfl rfl rfl ?_
    refine VD_Y hT rfl rfl rfl rfl (Yl.given rfl fun h => yl_indexAddr (n := 0) (cs := eVersion (l.getD 0 default)) hT rfl rfl rfl rfl rfl rfl rfl ?_) rfl rfl rfl ?_
    · have h1 : decide ((0 : Int) < ((l.map eVersion).length : Int)) = true := h.1
      have h2 := of_decide_eq_true h1
      rw [List.length_map] at h2
      exact get_map (by omega)
    refine VD_end (n := 1000) hT rfl (by kernel_rfl) (by kernel_rfl) rfl rfl rfl ?_
    have hbad : putBad l state v = (((errOf (chainOK l) != 0 || !true) || !mayV v) || (decide ((0 : Int) < ((l.map eVersion).length : Int)) && decide (v.At < (l.getD 0 default).At))) := by
      unfold putBad; rw [hst, List.length_map]
    refine V_cond rfl (fun h1 => ?_) fun h1 => ?_
    · replace h1 := hbad.trans h1
      refine V_go (n := 1000) hT rfl ?_
      refine endsP rfl ?_
      have : putE l state v = ([], 1) := by unfold putE; rw [if_pos h1]
      rw [this]; exact rLE_nil 1
    · replace h1 := hbad.trans h1
      have hlen : l.length ≤ 20 := by
        refine chainOK_len ?_
        unfold putBad at h1
        simp only [Bool.or_eq_false_iff] at h1
        exact h1.1.1.1
      refine V_go (n := 1000) hT rfl ?_
      refine VL_Y (n := 1000) hT (yl_pure (chain_lay state hst l v (by omega)) rfl rfl rfl) rfl rfl rfl ?_
      generalize hL : layV state l v = L
      obtain ⟨out, e⟩ := L
      refine V_cond rfl (fun h2 => ?_) fun h2 => ?_
      · refine V_go (n := 1000) hT rfl ?_
        refine endsP rfl ?_
        have : putE l state v = ([], e) := by unfold putE; rw [if_neg (by rw [h1]; simp), hL, if_pos h2]
        rw [this]; exact rLE_nil e
      · refine V_go (n := 1000) hT rfl ?_
        refine V_cond rfl (fun h3 => ?_) fun h3 => ?_
        · rw [List.length_map] at h3
          refine V_go (n := 1000) hT rfl ?_
          refine endsP rfl ?_
          have : putE l state v = ([], 6) := by unfold putE; rw [if_neg (by rw [h1]; simp), hL, if_neg (by simp only; rw [h2]; simp), if_pos h3]
          rw [this]; exact rLE_nil 6
        · rw [List.length_map] at h3
          refine V_go (n := 1000) hT rfl ?_
          refine endsP rfl ?_
          have : putE l state v = (out, 0) := by unfold putE; rw [if_neg (by rw [h1]; simp), hL, if_neg (by simp only; rw [h2]; simp), if_neg (by simp only; rw [h3]; simp)]
          rw [this]; exact WkA.refl _
end Go.Cel

set_option linter.unusedVariables false
set_option maxRecDepth 100000
set_option maxHeartbeats 4000000
namespace Go.Cel
open Go.Proofs Go.IntWalk

def deleteE (l : List Version) (state id at_ : Int) : List Version × Int :=
  if state == 0 then dropE l 0 else if state == 2 then putE l state ⟨0, empty, true, at_⟩ else putE l state ⟨id, empty, true, at_⟩
theorem chain_Delete (l : List Version) (state id at_ : Int) : Pure Tryz.prog 83 [bD (dVersions l), bD (.int .i64 state), bD (.int .u64 id), bD (.int .i64 at_)] (rLE (deleteE l state id at_)) := by
  refine pure_intro hT Tryz.func83 rfl (by kernel_rfl) rfl rfl fun X hX => ?_
  refine V_go (n := 1000) hT rfl ?_
  refine V_cond rfl (fun h1 => ?_) fun h1 => ?_
  · refine V_go (n := 1000) hT rfl ?_
    refine VL_Y (n := 1000) hT (yl_pure (chain_Drop l 0) rfl rfl rfl) rfl rfl rfl ?_
    refine endsP rfl ?_
    have : deleteE l state id at_ = dropE l 0 := by unfold deleteE; rw [if_pos h1]
    rw [this]; exact WkA.refl _
  · refine V_go (n := 1000) hT rfl ?_
    refine V_cond rfl (fun h2 => ?_) fun h2 => ?_
    · refine V_go (n := 1000) hT rfl ?_
      refine VL_Y (n := 1000) hT (yl_pure (chain_Put l state ⟨0, empty, true, at_⟩) rfl rfl rfl) rfl rfl rfl ?_
      refine endsP rfl ?_
      have : deleteE l state id at_ = putE l state ⟨0, empty, true, at_⟩ := by unfold deleteE; rw [if_neg (by rw [h1]; simp), if_pos h2]
      rw [this]; exact WkA.refl _
    · refine V_go (n := 1000) hT rfl ?_
      refine VL_Y (n := 1000) hT (yl_pure (chain_Put l state ⟨id, empty, true, at_⟩) rfl rfl rfl) rfl rfl rfl ?_
      refine endsP rfl ?_
      have : deleteE l state id at_ = putE l state ⟨id, empty, true, at_⟩ := by unfold deleteE; rw [if_neg (by rw [h1]; simp), if_neg (by rw [h2]; simp)]
      rw [this]; exact WkA.refl _

def findI (l : List Entry) (key : ByteArray) : Int := idxOf (fun x : Entry => x.Key == key) l
def getV (l : List Entry) (key : ByteArray) : List Version := if decide (findI l key < 0) then [] else (l.getD (findI l key).toNat default).L
theorem idxOf_range {α : Type} {q : α → Bool} {l : List α} (h : decide (idxOf q l < 0) = false) : idxOf q l = ((idxOf q l).toNat : Int) ∧ (idxOf q l).toNat < l.length := by
  have h1 := of_decide_eq_false h
  refine ⟨by omega, ?_⟩
  unfold idxOf at h1 ⊢
  split at h1
  · rename_i i hi
    rw [List.findIdx?_eq_some_iff_getElem] at hi
    simp; exact hi.1
  · omega
theorem index_Get (l : List Entry) (key : ByteArray) : Pure Tryz.prog 49 [bD (dEntries l), bD (.str key)] (dl (dVersions (getV l key))) := by
  refine pure_intro hT Tryz.func49 rfl (by kernel_rfl) rfl rfl fun X hX => ?_
  refine V_go (n := 1000) hT rfl ?_
  refine VL_Y (n := 1000) hT (yl_pure (index_find l key) rfl rfl rfl) rfl rfl rfl ?_
  refine V_cond rfl (fun h1 => ?_) fun h1 => ?_
  · refine V_go (n := 1000) hT rfl ?_
    refine endsP rfl ?_
    have : getV l key = [] := by unfold getV; rw [if_pos (show decide (findI l key < 0) = true from h1)]
    rw [this]; exact .b (.l (.d (.nil 47)))
  · obtain ⟨hz, hlt⟩ := idxOf_range h1
    refine V_go (n := 1000) hT rfl ?_
    refine VL_Y (n := 1000) hT (yl_indexAddr (n := (findI l key).toNat) (cs := eEntry (l.getD (findI l key).toNat default)) hT rfl rfl rfl rfl rfl rfl hz (get_map hlt)) rfl rfl rfl ?_
    refine VL_T (n := 1000) hT 1 rfl (tl_call [] [(0, 0)] (clone_Version (l.getD (findI l key).toNat default).L) rfl rfl rfl rfl trivial rfl (full_of rfl) rfl rfl rfl rfl) rfl rfl rfl ?_
    refine ends_ghost (ghost_freeze 0 rfl) (endsP rfl ?_)
    have : getV l key = (l.getD (findI l key).toNat default).L := by unfold getV; rw [if_neg (by rw [show decide (findI l key < 0) = false from h1]; simp)]
    rw [this]; exact WkA.refl _

def less (a b : ByteArray) : Bool := Op.bytesLess a.toList b.toList
def atI (l : List Entry) (key : ByteArray) : Nat := l.countP fun x => less x.Key key
theorem atI_take {l : List Entry} {key : ByteArray} {i : Nat} (h : i < l.length) : atI (l.take (i + 1)) key = atI (l.take i) key + (if less (l.getD i default).Key key then 1 else 0) := by
  unfold atI
  rw [List.take_succ_eq_append_getElem h, List.countP_append]
  have : l[i] = l.getD i default := by simp [List.getD_eq_getElem?_getD, h]
  rw [this]; simp [List.countP_cons]
theorem index_At (l : List Entry) (key : ByteArray) : Pure Tryz.prog 161 [bD (dEntries l), bD (.str key)] (dl (.int .i64 (atI l key))) := by
  refine pure_intro hT Tryz.func161 rfl (by kernel_rfl) rfl rfl fun X hX => ?_
  refine V_lenb (j := 0) rfl fun hlen _ => ?_
  simp only [List.length_map, maxLen] at hlen
  refine V_go (n := 1000) hT rfl ?_
  refine V_loop hX (fun (i : Nat) => ⟨[(10, [], dl (.int .i64 i)), (9, [], dl (.int .i64 l.length)), (8, [], dl (dEntries l)), (5, [], dl (.int .i64 (atI (l.take i) key))), (1, [], dl (.str key)), (4, [], dl (.int .i64 0))], [], 0, [], [], 22⟩)
    (fun i => i ≤ l.length) (fun i => l.length - i) 0 ?_ (Nat.zero_le _) fun i hi => ?_
  · exact ghost_of [] rfl rfl rfl rfl rfl ⟨⟨rfl, rfl⟩, ⟨rfl, congrArg (fun (n : Nat) => some (([] : Path), dl (.int .i64 n))) (List.length_map ..)⟩, ⟨rfl, rfl⟩, ⟨rfl, rfl⟩, ⟨rfl, rfl⟩, ⟨rfl, rfl⟩, trivial⟩ trivial
  refine V_go (n := 1000) hT rfl ?_
  refine V_cond rfl (fun hlt => ?_) fun hge => ?_
  · have hlt' : i < l.length := by simpa using hlt
    have hw := i64_succ (n := i) (by omega)
    have hle : atI (l.take i) key ≤ i := Nat.le_trans (List.countP_le_length ..) (by simp; omega)
    have hw2 := i64_succ (n := atI (l.take i) key) (by omega)
    have hstep := atI_take (key := key) hlt'
    refine V_go (n := 1000) hT rfl ?_
    refine VL_Y (n := 1000) hT (yl_indexAddr (n := i) (cs := eEntry (l.getD i default)) hT rfl rfl rfl rfl rfl rfl rfl (get_map hlt')) rfl rfl rfl ?_
    refine V_cond rfl (fun h1 => ?_) fun h1 => ?_
    · rw [show less (l.getD i default).Key key = true from h1] at hstep
      simp at hstep
      refine V_go (n := 1000) hT rfl ?_
      refine ⟨i + 1, hlt', by omega, ?_⟩
      refine ghost_of [] rfl rfl rfl rfl rfl ⟨⟨rfl, congrArg (fun z => some (([] : Path), dl (.int .i64 z))) hw⟩, ⟨rfl, rfl⟩, ⟨rfl, rfl⟩, ⟨rfl, ?_⟩, ⟨rfl, rfl⟩, ⟨rfl, rfl⟩, trivial⟩ trivial
      rw [hstep]
      exact congrArg (fun z => some (([] : Path), dl (.int .i64 z))) hw2
    · rw [show less (l.getD i default).Key key = false from h1] at hstep
      simp at hstep
      refine V_go (n := 1000) hT rfl ?_
      refine ⟨i + 1, hlt', by omega, ?_⟩
      refine ghost_of [] rfl rfl rfl rfl rfl ⟨⟨rfl, congrArg (fun z => some (([] : Path), dl (.int .i64 z))) hw⟩, ⟨rfl, rfl⟩, ⟨rfl, rfl⟩, ⟨rfl, ?_⟩, ⟨rfl, rfl⟩, ⟨rfl, rfl⟩, trivial⟩ trivial
      rw [hstep]; rfl
  · have hi0 : i = l.length := by simp at hge; omega
    refine V_go (n := 1000) hT rfl ?_
    refine endsP rfl ?_
    rw [hi0, List.take_length]; exact WkA.refl _

theorem bytesLess_irrefl : ∀ l : List UInt8, Op.bytesLess l l = false
  | [] => rfl
  | x :: r => by simp [Op.bytesLess, bytesLess_irrefl r]
theorem less_irrefl (a : ByteArray) : less a a = false := bytesLess_irrefl _
theorem atI_found {l : List Entry} {key : ByteArray} (h : decide (0 ≤ findI l key) = true) : atI l key + 1 ≤ l.length := by
  unfold findI at h
  rw [idxOf_any, List.any_eq_true] at h
  obtain ⟨x, hx, hk⟩ := h
  have hk : x.Key = key := eq_of_beq hk
  have hx' : ¬ (less x.Key key = true) := by rw [hk, less_irrefl]; simp
  have hle : atI l key ≤ l.length := List.countP_le_length ..
  rcases Nat.lt_or_ge (atI l key) l.length with h | h
  · exact h
  · have : atI l key = l.length := by omega
    rw [atI, List.countP_eq_length] at this
    exact absurd (this x hx) hx'

/-- entries and an error. -/
abbrev rEE (x : List Entry × Int) : A := .tup [bD (dEntries x.1), bD (.int .i64 x.2)]
theorem rEE_nil (e : Int) : WkA (.tup [bD .nilsl, bD (.int .i64 e)]) (rEE ([], e)) := .tup ⟨.l (.d (.nil 56)), .refl _, trivial⟩
def putIbad (l : List Entry) (key : ByteArray) (c : List Version) : Bool := (errOf (indexOK l) != 0 || !keyOK key) || errOf (chainOK c) != 0
def putIx (l : List Entry) (key : ByteArray) (c : List Version) : List Entry :=
  l.take (atI l key) ++ (if c.isEmpty then [] else [⟨key, c⟩]) ++ l.drop (if decide (0 ≤ findI l key) then atI l key + 1 else atI l key)
def putI (l : List Entry) (key : ByteArray) (c : List Version) : List Entry × Int :=
  if putIbad l key c then ([], 1) else if decide ((60 : Int) < ((putIx l key c).length : Int)) then ([], 6) else (putIx l key c, 0)
theorem index_Put (l : List Entry) (key : ByteArray) (c : List Version) : Pure Tryz.prog 132 [bD (dEntries l), bD (.str key), bD (dVersions c)] (rEE (putI l key c)) := by
  refine pure_intro hT Tryz.func132 rfl (by kernel_rfl) rfl rfl fun X hX => ?_
  refine V_go (n := 1000) hT rfl ?_
  refine VL_Y (n := 1000) hT (yl_pure (index_Check l) rfl rfl rfl) rfl rfl rfl ?_
  refine VL_Yp (n := 1000) hT rfl (yl_pure (name_Key key) rfl rfl rfl) rfl rfl ?_
  refine VL_Yp (n := 1000) hT rfl (yl_pure (chain_Check c) rfl rfl rfl) rfl rfl ?_
  refine V_cond rfl (fun h1 => ?_) fun h1 => ?_
  · refine V_go (n := 1000) hT rfl ?_
    refine endsP rfl ?_
    have : putI l key c = ([], 1) := by unfold putI; rw [if_pos (show putIbad l key c = true from h1)]
    rw [this]; exact rEE_nil 1
  · have hput : putI l key c = if decide ((60 : Int) < ((putIx l key c).length : Int)) then ([], 6) else (putIx l key c, 0) := by unfold putI; rw [if_neg (by rw [show putIbad l key c = false from h1]; simp)]
    have hlen : l.length ≤ 60 := by
      have h2 : ((errOf (indexOK l) != 0 || !keyOK key) || errOf (chainOK c) != 0) = false := h1
      simp only [Bool.or_eq_false_iff] at h2
      have h3 := h2.1.1
      have h4 : indexOK l = true := by
        unfold errOf at h3
        cases hc : indexOK l with
        | true => rfl
        | false => rw [hc] at h3; simp at h3
      unfold indexOK at h4
      simp at h4; omega
    have hat : atI l key ≤ l.length := List.countP_le_length ..
    refine V_go (n := 1000) hT rfl ?_
    refine VL_Y (n := 1000) hT (yl_pure (index_At l key) rfl rfl rfl) rfl rfl rfl ?_
    refine VL_Y (n := 1000) hT (yl_pure (index_find l key) rfl rfl rfl) rfl rfl rfl ?_
    have hbl : (if decide (0 ≤ findI l key) then atI l key + 1 else atI l key) ≤ l.length := by
      cases h2 : decide (0 ≤ findI l key) with
      | true => exact atI_found h2
      | false => exact hat
    generalize hi : atI l key = i at hat hbl
    generalize hb : (if decide (0 ≤ findI l key) then i + 1 else i) = b at hbl
    refine V_meet hX ⟨[(10, [], dl (.int .i64 b)), (8, [], dl (.int .i64 i)), (2, [], bD (dVersions c) |> A.b), (1, [], dl (.str key)), (0, [], dl (dEntries l)), (6, [], dl .nilsl), (7, [], dl (.int .i64 0))], [], 0, [], [], 64⟩ ?_ ?_
    · refine V_cond rfl (fun h2 => ?_) fun h2 => ?_
      · refine V_go (n := 1000) hT rfl ?_
        have : b = i + 1 := by rw [← hb, if_pos (show decide (0 ≤ findI l key) = true from h2)]
        refine ghost_of [] rfl rfl rfl rfl rfl ⟨⟨rfl, ?_⟩, ⟨rfl, rfl⟩, ⟨rfl, rfl⟩, ⟨rfl, rfl⟩, ⟨rfl, rfl⟩, ⟨rfl, rfl⟩, ⟨rfl, rfl⟩, trivial⟩ trivial
        rw [this]; exact congrArg (fun z => some (([] : Path), dl (.int .i64 z))) (i64_succ (by omega))
      · refine V_go (n := 1000) hT rfl ?_
        have : b = i := by rw [← hb, if_neg (by rw [show decide (0 ≤ findI l key) = false from h2]; simp)]
        refine ghost_of [] rfl rfl rfl rfl rfl ⟨⟨rfl, ?_⟩, ⟨rfl, rfl⟩, ⟨rfl, rfl⟩, ⟨rfl, rfl⟩, ⟨rfl, rfl⟩, ⟨rfl, rfl⟩, ⟨rfl, rfl⟩, trivial⟩ trivial
        rw [this]; rfl
    have hcl : ∀ e : Entry, (l.take i ++ [e]).map eEntry = (l.map eEntry).take i ++ [eEntry e] := fun e => by rw [List.map_append, List.map_take]; rfl
    have hil : ((l.map eEntry).take i).length = i := by simp; omega
    refine V_go (n := 1000) hT rfl ?_
    refine VL_Y (n := 1000) hT (yl_slice3 hT i rfl rfl rfl rfl (.inl rfl) rfl rfl rfl rfl rfl (by simpa using hat)) rfl rfl rfl ?_
    refine V_meet hX ⟨[(11, [], dl (dEntries (l.take i ++ (if c.isEmpty then [] else [⟨key, c⟩])))), (10, [], dl (.int .i64 b)), (0, [], dl (dEntries l)), (6, [], dl .nilsl), (7, [], dl (.int .i64 0))], [], 0, [], [], 64⟩ ?_ ?_
    · refine V_cond rfl (fun h2 => ?_) fun h2 => ?_
      · have hce : c.isEmpty = false := by
          rw [List.length_map] at h2
          cases c with
          | nil => simp at h2
          | cons => rfl
        refine V_go (n := 1000) hT rfl ?_
        refine VL_T (n := 1000) hT 1 rfl (tl_call [] [(0, 0)] (clone_Version c) rfl rfl rfl rfl trivial rfl (full_of rfl) rfl rfl rfl rfl) rfl rfl rfl ?_
        refine VL_ghost hX (ghost_freeze 0 rfl) ?_
        refine VL_go (n := 1000) hT rfl ?_
        refine VL_T (n := 1000) hT 2 rfl (tl_buildSlice (n := 1) hT rfl rfl rfl rfl rfl rfl rfl rfl) rfl rfl rfl ?_
        refine VL_Y (n := 1000) hT (yl_appendCut hT rfl rfl rfl rfl rfl rfl rfl rfl rfl ?_ ?_) rfl rfl rfl ?_
        · rw [hil]; exact Nat.le_trans (Nat.mul_le_mul_right _ (show i + 1 ≤ 61 by omega)) (by decide)
        · rw [hil]; simp only [maxLen, List.length_singleton]; omega
        refine ghost_of [] rfl rfl rfl rfl rfl ⟨⟨rfl, ?_⟩, ⟨rfl, rfl⟩, ⟨rfl, rfl⟩, ⟨rfl, rfl⟩, ⟨rfl, rfl⟩, trivial⟩ trivial
        rw [hce]
        show some (([] : Path), dl (D.seq 56 _)) = some (([] : Path), dl (D.seq 56 _))
        rw [show (l.take i ++ (if false = true then [] else [(⟨key, c⟩ : Entry)])) = l.take i ++ [⟨key, c⟩] from rfl, hcl]
      · have hce : c.isEmpty = true := by
          rw [List.length_map] at h2
          cases c with
          | nil => rfl
          | cons => simp at h2
        refine V_go (n := 1000) hT rfl ?_
        refine (ghost_weak 11 rfl (.b (.l (.d (.uncut 56 _))))).trans (ghost_of [] rfl rfl rfl rfl rfl ⟨⟨rfl, ?_⟩, ⟨rfl, rfl⟩, ⟨rfl, rfl⟩, ⟨rfl, rfl⟩, ⟨rfl, rfl⟩, trivial⟩ trivial)
        rw [hce]
        show some (([] : Path), dl (D.seq 56 _)) = some (([] : Path), dl (D.seq 56 _))
        rw [show (l.take i ++ (if true = true then [] else [(⟨key, c⟩ : Entry)])) = l.take i ++ [] from rfl, List.append_nil, List.map_take]
    refine V_go (n := 1000) hT rfl ?_
    refine VD_start ?_
    refine VD_go hT rfl rfl ?_
    generalize hO : l.take i ++ (if c.isEmpty then [] else [(⟨key, c⟩ : Entry)]) = out
    have hol : (out.map eEntry).length ≤ 61 := by
      rw [← hO]; cases c.isEmpty <;> simp <;> omega
    have hmem : (l.map eEntry).length ≤ 60 := by simpa using hlen
    refine VD_Y hT rfl rfl rfl rfl (yl_slice3 hT (out.map eEntry).length rfl rfl rfl rfl (.inl rfl) rfl rfl rfl rfl rfl (Nat.le_refl _)) rfl rfl rfl ?_
    refine VD_Y hT rfl rfl rfl rfl (yl_sliceSeq (l := some (b : Int)) (h := none) hT b (l.map eEntry).length rfl rfl rfl rfl rfl rfl rfl rfl rfl (by simpa using hbl) (Nat.le_refl _)) rfl rfl rfl ?_
    refine VD_Y hT rfl rfl rfl rfl (yl_appendCut hT rfl rfl rfl rfl rfl rfl rfl rfl rfl ?_ ?_) rfl rfl rfl ?_
    · refine Nat.le_trans (Nat.mul_le_mul_right _ (show _ ≤ 121 from ?_)) (by decide)
      simp only [List.take_length, List.length_drop]; omega
    · simp only [List.take_length, List.length_drop, maxLen]; omega
    refine VD_end (n := 1000) hT rfl (by kernel_rfl) (by kernel_rfl) rfl rfl rfl ?_
    have hres : (out.map eEntry).take (out.map eEntry).length ++ ((l.map eEntry).take (l.map eEntry).length).drop b = (putIx l key c).map eEntry := by
      unfold putIx
      rw [List.take_length, List.take_length, hi, hO, hb, List.map_append, List.map_drop]
    refine V_cond rfl (fun h2 => ?_) fun h2 => ?_
    · rw [hres, List.length_map] at h2
      refine V_go (n := 1000) hT rfl ?_
      refine endsP rfl ?_
      rw [hput, if_pos h2]; exact rEE_nil 6
    · have h3 := h2
      rw [hres, List.length_map] at h3
      refine V_go (n := 1000) hT rfl ?_
      refine endsP rfl ?_
      rw [hput, if_neg (by rw [h3]; simp)]
      rw [hres]; exact WkA.refl _
end Go.Cel

set_option linter.unusedVariables false
set_option maxRecDepth 100000
set_option maxHeartbeats 4000000
namespace Go.Cel
open Go.Proofs Go.IntWalk

abbrev cBucket (b : Bucket) : List L := [.d (.str b.Name), .d (.int .i64 b.State), .d (dEntries b.L), .d (dUploads b.Up), .d (.int .u64 b.Last)]

theorem work_uploads (b : Bucket) (e : Int) (l : List Upload) (x : Int) : Con Tryz.prog 34 (oWork b e) 1 [.l (.ptr 0 0), bD (dUploads l), bD (.int .i64 x)] fun r o nx => r = .tup [] ∧ o = oWork { b with Up := l } (noE e (x != 0) x) ∧ nx = 1 := by
  refine con_intro hT Tryz.func34 rfl (by kernel_rfl) rfl fun X hX => ?_
  refine V_go (n := 1000) hT rfl ?_
  refine VL_T (n := 1000) hT 1 rfl (tl_call [(0, 0)] [] (work_no b e (x != 0) x) rfl rfl rfl rfl ⟨rfl, trivial⟩ rfl (full_of rfl) rfl rfl rfl rfl) rfl rfl rfl ?_
  exact ⟨.inl rfl, _, _, oWork { b with Up := l } (noE e (x != 0) x), Ghost.refl _ _, rfl, fun x hx => hx, rfl, rfl, rfl⟩

abbrev o80 (e : Int) (was b : Bucket) : List (Nat × Blk) := [(0, .cells [.d (.int .i64 e)] 30), (1, .cells (cBucket was) 26), (2, .cells (cBucket b) 26)]
theorem work_close1 (e : Int) (was b : Bucket) : ConD Tryz.prog 80 (o80 e was b) 3 [.l (.ptr 0 0), .l (.ptr 1 0), .l (.ptr 2 0)] fun r o nx => r = .tup [] ∧ o = o80 e was (if e != 0 then was else b) ∧ nx = 3 := by
  refine conD_intro hT Tryz.func80 rfl (by kernel_rfl) rfl fun X hX => ?_
  refine V_go (n := 1000) hT rfl ?_
  refine V_cond rfl (fun h1 => ?_) fun h1 => ?_
  · refine V_go (n := 1000) hT rfl ?_
    rw [if_pos h1]
    exact ⟨.inl rfl, _, _, o80 e was was, Ghost.refl _ _, rfl, fun x hx => hx, rfl, rfl, rfl⟩
  · refine V_go (n := 1000) hT rfl ?_
    rw [if_neg (by rw [h1]; simp)]
    exact ⟨.inl rfl, _, _, o80 e was b, Ghost.refl _ _, rfl, fun x hx => hx, rfl, rfl, rfl⟩

def closeE (b : Bucket) (e : Int) : Int := noE e (e == 0 && decide ((20000 : Int) < IntKind.i64.wrap (octB b))) 6
def closeB (b : Bucket) (e : Int) (was : Bucket) : Bucket × Int := (if closeE b e != 0 then was else b, closeE b e)
theorem work_close (b : Bucket) (e : Int) (was : Bucket) : Con Tryz.prog 36 (oWork b e) 1 [.l (.ptr 0 0), bBucket was] fun r o nx => r = rBE (closeB b e was) ∧ o = [] ∧ nx = 4 := by
  refine con_introD hT Tryz.func36 rfl (by kernel_rfl) rfl fun X C0 hX hF hp => ?_
  refine V_go (n := 1000) hT rfl ?_
  refine VL_Y (n := 1000) hT (yl_makeFuncO rfl rfl rfl rfl) rfl rfl rfl ?_
  refine VL_defer hF hp (work_close1 0 was was).1 rfl rfl rfl rfl fun X' hX' hF' hp' => ?_
  refine VL_go (n := 1000) hT rfl ?_
  refine VL_Yp (n := 1000) hT rfl (yl_pure (bucket_octets b) rfl rfl rfl) rfl rfl ?_
  refine VL_T (n := 1000) hT 4 rfl (tl_call [(0, 0)] [] (work_no b e (e == 0 && decide ((20000 : Int) < IntKind.i64.wrap (octB b))) 6) rfl rfl rfl rfl ⟨rfl, trivial⟩ rfl (full_of rfl) rfl rfl rfl rfl) rfl rfl rfl ?_
  refine VD_start ?_
  refine VD_go hT rfl rfl ?_
  refine VD_end (n := 1000) hT rfl (by kernel_rfl) (by kernel_rfl) rfl rfl rfl ?_
  refine ⟨.inr rfl, leave_call [(0, 3), (1, 1), (2, 2)] [] 4 (work_close1 (closeE b e) was b) rfl rfl ⟨rfl, rfl, rfl, trivial⟩ rfl (full_of rfl) rfl rfl rfl rfl rfl ?_⟩
  exact ⟨_, _, [], Ghost.refl _ _, rfl, by simp, rfl, rfl, rfl⟩

abbrev rV3 (x : Version × Int) : A := rVE x
/-- something is done to a key's versions. -/
def versB (g : List Version → List Version × Int) (b : Bucket) (e : Int) (key : ByteArray) : Bucket × Int :=
  if e != 0 then (b, e)
  else if noE e ((g (getV b.L key)).2 != 0) (g (getV b.L key)).2 == 0 then ({ b with L := (putI b.L key (g (getV b.L key)).1).1 }, (putI b.L key (g (getV b.L key)).1).2)
  else (b, noE e ((g (getV b.L key)).2 != 0) (g (getV b.L key)).2)
theorem work_versions {f : FuncId} {first caps : List D} {g : List Version → List Version × Int} (hq : ∀ l, Pure Tryz.prog f (first.map bD ++ ([bD (dVersions l)] ++ caps.map bD)) (rLE (g l))) (b : Bucket) (e : Int) (key : ByteArray) :
    Con Tryz.prog 84 (oWork b e) 1 [.l (.ptr 0 0), bD (.str key), bD (.fn f first caps)] fun r o nx => r = .tup [] ∧ o = oWork (versB g b e key).1 (versB g b e key).2 ∧ nx = 1 := by
  refine con_intro hT Tryz.func84 rfl (by kernel_rfl) rfl fun X hX => ?_
  refine V_go (n := 1000) hT rfl ?_
  refine V_cond rfl (fun h1 => ?_) fun h1 => ?_
  · refine V_go (n := 1000) hT rfl ?_
    have : versB g b e key = (b, e) := by unfold versB; rw [if_pos h1]
    rw [this]
    exact ⟨.inr rfl, _, _, oWork b e, Ghost.refl _ _, rfl, fun x hx => hx, rfl, rfl, rfl⟩
  · refine V_go (n := 1000) hT rfl ?_
    refine VL_Y (n := 1000) hT (yl_pure (index_Get b.L key) rfl rfl rfl) rfl rfl rfl ?_
    refine VL_Y (n := 1000) hT (yl_pure (hq (getV b.L key)) rfl rfl (noOwn_fn rfl)) rfl rfl rfl ?_
    have hv : versB g b e key = if noE e ((g (getV b.L key)).2 != 0) (g (getV b.L key)).2 == 0 then ({ b with L := (putI b.L key (g (getV b.L key)).1).1 }, (putI b.L key (g (getV b.L key)).1).2) else (b, noE e ((g (getV b.L key)).2 != 0) (g (getV b.L key)).2) := by
      unfold versB; rw [if_neg (by rw [h1]; simp)]
    rw [hv]
    generalize g (getV b.L key) = G
    obtain ⟨l1, e1⟩ := G
    refine VL_T (n := 1000) hT 1 rfl (tl_call [(0, 0)] [] (work_no b e (e1 != 0) e1) rfl rfl rfl rfl ⟨rfl, trivial⟩ rfl (full_of rfl) rfl rfl rfl rfl) rfl rfl rfl ?_
    refine V_cond rfl (fun h2 => ?_) fun h2 => ?_
    · rw [if_pos h2]
      refine V_go (n := 1000) hT rfl ?_
      refine VL_Y (n := 1000) hT (yl_pure (index_Put b.L key l1) rfl rfl rfl) rfl rfl rfl ?_
      exact ⟨.inl rfl, _, _, oWork { b with L := (putI b.L key l1).1 } (putI b.L key l1).2, Ghost.refl _ _, rfl, fun x hx => hx, rfl, rfl, rfl⟩
    · rw [if_neg (by simp only; rw [h2]; simp)]
      refine V_go (n := 1000) hT rfl ?_
      exact ⟨.inl rfl, _, _, oWork b (noE e (e1 != 0) e1), Ghost.refl _ _, rfl, fun x hx => hx, rfl, rfl, rfl⟩
end Go.Cel
