/- CxZd: a bucket's uploads. -/
import Derived.Test.YtflmcnpfeikoeaaGreatDoorK16
import Derived.Test.YtflmcnpfeikoeaaGreatDoorK10
import Derived.ProofKit
import Derived.ChangeArms
import Derived.SizedLaws
set_option linter.unusedVariables false
set_option maxRecDepth 100000
set_option maxHeartbeats 4000000
namespace Go.Cel
open Go.Proofs Go.IntWalk

abbrev kB : ByteArray := "k".toUTF8
def abortB (b : Bucket) (id : Int) : Bucket × Int := closeB { b with Up := (abortU b.Up id).1 } (noE (openE b kB) ((abortU b.Up id).2 != 0) (abortU b.Up id).2) b
theorem bucket_Abort (b : Bucket) (id : Int) : Pure Tryz.prog 58 [bBucket b, bD (.int .u64 id)] (rBE (abortB b id)) := by
  refine pure_intro hT Tryz.func58 rfl (by kernel_rfl) rfl rfl fun X hX => ?_
  refine V_go (n := 1000) hT rfl ?_
  refine VL_T (n := 1000) hT 3 rfl (tl_call [] [(0, 2)] (bucket_open b kB) rfl rfl rfl rfl trivial rfl (full_of rfl) rfl rfl rfl rfl) rfl rfl rfl ?_
  refine VL_Y (n := 1000) hT (yl_pure (parts_Abort b.Up id) rfl rfl rfl) rfl rfl rfl ?_
  refine VL_T (n := 1000) hT 3 rfl (tl_call [(0, 2)] [] (work_uploads b (openE b kB) (abortU b.Up id).1 (abortU b.Up id).2) rfl rfl rfl rfl ⟨rfl, trivial⟩ rfl (full_of rfl) rfl rfl rfl rfl) rfl rfl rfl ?_
  refine VL_T (n := 1000) hT 3 rfl (tl_call [(0, 2)] [] (work_close { b with Up := (abortU b.Up id).1 } (noE (openE b kB) ((abortU b.Up id).2 != 0) (abortU b.Up id).2) b) rfl rfl rfl rfl ⟨rfl, trivial⟩ rfl (full_of rfl) rfl rfl rfl rfl) rfl rfl rfl ?_
  exact endsP rfl (WkA.refl _)

def beginB1 (b : Bucket) (key : ByteArray) : Bucket × Int :=
  let n := IntKind.u64.wrap (b.Last + 1)
  let b1 : Bucket := { b with Last := n }
  let e1 := noE (openE b key) (decide (281474976710655 ≤ b.Last)) 6
  if e1 == 0 then ({ b1 with Up := (beginU b.Up n key).1 }, noE e1 ((beginU b.Up n key).2 != 0) (beginU b.Up n key).2) else (b1, e1)
def beginB (b : Bucket) (key : ByteArray) : Bucket × Int × Int :=
  if (closeB (beginB1 b key).1 (beginB1 b key).2 b).2 != 0 then (b, 0, (closeB (beginB1 b key).1 (beginB1 b key).2 b).2) else ((closeB (beginB1 b key).1 (beginB1 b key).2 b).1, IntKind.u64.wrap (b.Last + 1), 0)
theorem bucket_Begin (b : Bucket) (key : ByteArray) : Pure Tryz.prog 12 [bBucket b, bD (.str key)] (rBNE (beginB b key)) := by
  refine pure_intro hT Tryz.func12 rfl (by kernel_rfl) rfl rfl fun X hX => ?_
  refine V_go (n := 1000) hT rfl ?_
  refine VL_T (n := 1000) hT 3 rfl (tl_call [] [(0, 2)] (bucket_open b key) rfl rfl rfl rfl trivial rfl (full_of rfl) rfl rfl rfl rfl) rfl rfl rfl ?_
  refine VL_T (n := 1000) hT 3 rfl (tl_call [(0, 2)] [] (work_next b (openE b key)) rfl rfl rfl rfl ⟨rfl, trivial⟩ rfl (full_of rfl) rfl rfl rfl rfl) rfl rfl rfl ?_
  have hr : beginB1 b key = if noE (openE b key) (decide (281474976710655 ≤ b.Last)) 6 == 0 then ({ b with Last := IntKind.u64.wrap (b.Last + 1), Up := (beginU b.Up (IntKind.u64.wrap (b.Last + 1)) key).1 }, noE (noE (openE b key) (decide (281474976710655 ≤ b.Last)) 6) ((beginU b.Up (IntKind.u64.wrap (b.Last + 1)) key).2 != 0) (beginU b.Up (IntKind.u64.wrap (b.Last + 1)) key).2) else ({ b with Last := IntKind.u64.wrap (b.Last + 1) }, noE (openE b key) (decide (281474976710655 ≤ b.Last)) 6) := rfl
  unfold beginB
  rw [hr]
  clear hr
  generalize noE (openE b key) (decide (281474976710655 ≤ b.Last)) 6 = e1
  generalize IntKind.u64.wrap (b.Last + 1) = n
  refine V_cond rfl (fun h1 => ?_) fun h1 => ?_
  · rw [if_pos (show (e1 == 0) = true from h1)]
    refine V_go (n := 1000) hT rfl ?_
    refine VL_Y (n := 1000) hT (yl_pure (parts_Begin b.Up n key) rfl rfl rfl) rfl rfl rfl ?_
    refine VL_T (n := 1000) hT 3 rfl (tl_call [(0, 2)] [] (work_uploads { b with Last := n } e1 (beginU b.Up n key).1 (beginU b.Up n key).2) rfl rfl rfl rfl ⟨rfl, trivial⟩ rfl (full_of rfl) rfl rfl rfl rfl) rfl rfl rfl ?_
    refine VL_T (n := 1000) hT 4 rfl (tl_call [(0, 2)] [] (work_close ({ b with Last := n, Up := (beginU b.Up n key).1 }) (noE e1 ((beginU b.Up n key).2 != 0) (beginU b.Up n key).2) b) rfl rfl rfl rfl ⟨rfl, trivial⟩ rfl (full_of rfl) rfl rfl rfl rfl) rfl rfl rfl ?_
    generalize closeB ({ b with Last := n, Up := (beginU b.Up n key).1 }) (noE e1 ((beginU b.Up n key).2 != 0) (beginU b.Up n key).2) b = Z
    obtain ⟨out, e⟩ := Z
    refine V_cond rfl (fun h9 => ?_) fun h9 => ?_
    · rw [if_pos h9]
      refine V_go (n := 1000) hT rfl ?_
      exact endsP rfl (WkA.refl _)
    · rw [if_neg (by simp only; rw [h9]; simp)]
      refine V_go (n := 1000) hT rfl ?_
      exact endsP rfl (WkA.refl _)
  · rw [if_neg (show ¬ ((e1 == 0) = true) from by rw [show (e1 == 0) = false from h1]; simp)]
    refine V_go (n := 1000) hT rfl ?_
    refine VL_T (n := 1000) hT 4 rfl (tl_call [(0, 2)] [] (work_close ({ b with Last := n }) (e1) b) rfl rfl rfl rfl ⟨rfl, trivial⟩ rfl (full_of rfl) rfl rfl rfl rfl) rfl rfl rfl ?_
    generalize closeB ({ b with Last := n }) (e1) b = Z
    obtain ⟨out, e⟩ := Z
    refine V_cond rfl (fun h9 => ?_) fun h9 => ?_
    · rw [if_pos h9]
      refine V_go (n := 1000) hT rfl ?_
      exact endsP rfl (WkA.refl _)
    · rw [if_neg (by simp only; rw [h9]; simp)]
      refine V_go (n := 1000) hT rfl ?_
      exact endsP rfl (WkA.refl _)

def layB1 (b : Bucket) (id : Int) (p : Part) : Bucket × Int := closeB { b with Up := (layU b.Up id p).1 } (noE (openE b kB) ((layU b.Up id p).2.2 != 0) (layU b.Up id p).2.2) b
def layB (b : Bucket) (id : Int) (p : Part) : Bucket × Int × Int := if (layB1 b id p).2 != 0 then (b, 0, (layB1 b id p).2) else ((layB1 b id p).1, (layU b.Up id p).2.1, 0)
abbrev rBTE (x : Bucket × Int × Int) : A := .tup [bBucket x.1, bD (.int .u32 x.2.1), bD (.int .i64 x.2.2)]
theorem bucket_Lay (b : Bucket) (id : Int) (p : Part) : Pure Tryz.prog 15 [bBucket b, bD (.int .u64 id), bPart p] (rBTE (layB b id p)) := by
  refine pure_intro hT Tryz.func15 rfl (by kernel_rfl) rfl rfl fun X hX => ?_
  refine V_go (n := 1000) hT rfl ?_
  refine VL_T (n := 1000) hT 4 rfl (tl_call [] [(0, 3)] (bucket_open b kB) rfl rfl rfl rfl trivial rfl (full_of rfl) rfl rfl rfl rfl) rfl rfl rfl ?_
  refine VD_start ?_
  refine VD_go hT rfl rfl ?_
  refine VD_Y hT rfl rfl rfl rfl (yl_pure (parts_Lay b.Up id p) rfl rfl rfl) rfl rfl rfl ?_
  refine VD_end (n := 1000) hT rfl (by kernel_rfl) (by kernel_rfl) rfl rfl rfl ?_
  refine VL_T (n := 1000) hT 4 rfl (tl_call [(0, 3)] [] (work_uploads b (openE b kB) (layU b.Up id p).1 (layU b.Up id p).2.2) rfl rfl rfl rfl ⟨rfl, trivial⟩ rfl (full_of rfl) rfl rfl rfl rfl) rfl rfl rfl ?_
  unfold layB layB1
  refine VL_T (n := 1000) hT 4 rfl (tl_call [(0, 3)] [] (work_close ({ b with Up := (layU b.Up id p).1 }) (noE (openE b kB) ((layU b.Up id p).2.2 != 0) (layU b.Up id p).2.2) b) rfl rfl rfl rfl ⟨rfl, trivial⟩ rfl (full_of rfl) rfl rfl rfl rfl) rfl rfl rfl ?_
  generalize closeB ({ b with Up := (layU b.Up id p).1 }) (noE (openE b kB) ((layU b.Up id p).2.2 != 0) (layU b.Up id p).2.2) b = Z
  obtain ⟨out, e⟩ := Z
  refine V_cond rfl (fun h9 => ?_) fun h9 => ?_
  · rw [if_pos h9]
    refine V_go (n := 1000) hT rfl ?_
    exact endsP rfl (WkA.refl _)
  · rw [if_neg (by simp only; rw [h9]; simp)]
    refine V_go (n := 1000) hT rfl ?_
    exact endsP rfl (WkA.refl _)
end Go.Cel

set_option linter.unusedVariables false
set_option maxRecDepth 100000
set_option maxHeartbeats 4000000
namespace Go.Cel
open Go.Proofs Go.IntWalk

def wholeE1 (b : Bucket) (id : Int) : Int := noE (openE b kB) ((findUp b.Up id).2 != 0) (findUp b.Up id).2
def wholeE2 (b : Bucket) (id : Int) (ws : List Piece) : Int := noE (wholeE1 b id) ((wholeU (findUp b.Up id).1 ws).2.2 != 0) (wholeU (findUp b.Up id).1 ws).2.2
def wholeB3 (b : Bucket) (id : Int) (ws : List Piece) : Bucket × Int :=
  if wholeE2 b id ws == 0 then ({ b with Up := (abortU b.Up id).1 }, noE (wholeE2 b id ws) ((abortU b.Up id).2 != 0) (abortU b.Up id).2) else (b, wholeE2 b id ws)
def wholeB4 (b b3 : Bucket) (e3 : Int) (u : Upload) (w : ByteArray × ByteArray × Int) (at_ : Int) : Bucket × Int × ByteArray × Int :=
  if e3 != 0 then (b, 0, ByteArray.empty, e3) else
    if (putB b3 u.Key w.1 at_).2.2 != 0 then (b, 0, ByteArray.empty, (putB b3 u.Key w.1 at_).2.2) else ((putB b3 u.Key w.1 at_).1, (putB b3 u.Key w.1 at_).2.1, w.2.1, 0)
def wholeB (b : Bucket) (id : Int) (ws : List Piece) (at_ : Int) : Bucket × Int × ByteArray × Int :=
  wholeB4 b (wholeB3 b id ws).1 (wholeB3 b id ws).2 (findUp b.Up id).1 (wholeU (findUp b.Up id).1 ws) at_
abbrev rBNTE (x : Bucket × Int × ByteArray × Int) : A := .tup [bBucket x.1, bD (.int .u64 x.2.1), bD (.str x.2.2.1), bD (.int .i64 x.2.2.2)]

theorem bucket_Whole (b : Bucket) (id : Int) (ws : List Piece) (at_ : Int) (hw : ws.length < 100) (hne : (wholeU (findUp b.Up id).1 ws).2.2 = 0 → (catW (findUp b.Up id).1 ws).size ≠ 0) :
    Pure Tryz.prog 17 [bBucket b, bD (.int .u64 id), bD (dPieces ws), bD (.int .i64 at_)] (rBNTE (wholeB b id ws at_)) := by
  refine pure_intro hT Tryz.func17 rfl (by kernel_rfl) rfl rfl fun X hX => ?_
  refine V_go (n := 1000) hT rfl ?_
  refine VL_T (n := 1000) hT 3 rfl (tl_call [] [(0, 2)] (bucket_open b kB) rfl rfl rfl rfl trivial rfl (full_of rfl) rfl rfl rfl rfl) rfl rfl rfl ?_
  refine VL_Y (n := 1000) hT (yl_pure (parts_Find b.Up id) rfl rfl rfl) rfl rfl rfl ?_
  refine VL_T (n := 1000) hT 4 rfl (tl_call [(0, 2)] [] (work_no b (openE b kB) ((findUp b.Up id).2 != 0) (findUp b.Up id).2) rfl rfl rfl rfl ⟨rfl, trivial⟩ rfl (full_of rfl) rfl rfl rfl rfl) rfl rfl rfl ?_
  refine VL_Y (n := 1000) hT (yl_pure (upload_Whole (findUp b.Up id).1 ws hw hne) rfl rfl rfl) rfl rfl rfl ?_
  refine VL_T (n := 1000) hT 4 rfl (tl_call [(0, 2)] [] (work_no b (wholeE1 b id) ((wholeU (findUp b.Up id).1 ws).2.2 != 0) (wholeU (findUp b.Up id).1 ws).2.2) rfl rfl rfl rfl ⟨rfl, trivial⟩ rfl (full_of rfl) rfl rfl rfl rfl) rfl rfl rfl ?_
  have h3 : wholeB3 b id ws = if wholeE2 b id ws == 0 then ({ b with Up := (abortU b.Up id).1 }, noE (wholeE2 b id ws) ((abortU b.Up id).2 != 0) (abortU b.Up id).2) else (b, wholeE2 b id ws) := rfl
  have hB : wholeB b id ws at_ = wholeB4 b (wholeB3 b id ws).1 (wholeB3 b id ws).2 (findUp b.Up id).1 (wholeU (findUp b.Up id).1 ws) at_ := rfl
  rw [hB]
  generalize hu : (findUp b.Up id).1 = u
  generalize hw2 : wholeU u ws = w
  have heq : wholeE2 b id ws = noE (wholeE1 b id) (w.2.2 != 0) w.2.2 := by unfold wholeE2; rw [hu, hw2]
  rw [heq] at h3
  clear hne hB
  refine V_meet hX ⟨[(15, [], dl (.str w.1)), (16, [], dl (.str w.2.1)), (13, [], .b (.l (.ptr 3 0))), (12, [], .b (.l (.ptr 2 0))), (8, [], .b (.l (.ptr 1 0))), (4, [], .b (.l (.ptr 0 0))), (3, [], dl (.int .i64 at_))],
    [(3, .cells [.d (.int .u64 u.ID), .d (.str u.Key), .d (dParts u.L)] 101), (2, .cells (cWork (wholeB3 b id ws).1 (wholeB3 b id ws).2) 87), (1, .cells zBucket 26), (0, .cells (cBucket b) 26)], 4, [], [], 94⟩ ?_ ?_
  · refine V_cond rfl (fun h1 => ?_) fun h1 => ?_
    · rw [h3, if_pos (show (noE (wholeE1 b id) (w.2.2 != 0) w.2.2 == 0) = true from h1)]
      refine V_go (n := 1000) hT rfl ?_
      refine VL_Y (n := 1000) hT (yl_pure (parts_Abort b.Up id) rfl rfl rfl) rfl rfl rfl ?_
      refine VL_T (n := 1000) hT 4 rfl (tl_call [(0, 2)] [] (work_uploads b (noE (wholeE1 b id) (w.2.2 != 0) w.2.2) (abortU b.Up id).1 (abortU b.Up id).2) rfl rfl rfl rfl ⟨rfl, trivial⟩ rfl (full_of rfl) rfl rfl rfl rfl) rfl rfl rfl ?_
      exact ghost_of [(0, 0), (1, 1), (2, 2), (3, 3)] rfl rfl rfl rfl rfl ⟨⟨rfl, rfl⟩, ⟨rfl, rfl⟩, ⟨rfl, rfl⟩, ⟨rfl, rfl⟩, ⟨rfl, rfl⟩, ⟨rfl, rfl⟩, ⟨rfl, rfl⟩, trivial⟩ ⟨rfl, rfl, rfl, rfl, trivial⟩
    · rw [h3, if_neg (show ¬ ((noE (wholeE1 b id) (w.2.2 != 0) w.2.2 == 0) = true) from by rw [show (noE (wholeE1 b id) (w.2.2 != 0) w.2.2 == 0) = false from h1]; simp)]
      refine V_go (n := 1000) hT rfl ?_
      exact ghost_of [(0, 0), (1, 1), (2, 2), (3, 3)] rfl rfl rfl rfl rfl ⟨⟨rfl, rfl⟩, ⟨rfl, rfl⟩, ⟨rfl, rfl⟩, ⟨rfl, rfl⟩, ⟨rfl, rfl⟩, ⟨rfl, rfl⟩, ⟨rfl, rfl⟩, trivial⟩ ⟨rfl, rfl, rfl, rfl, trivial⟩
  clear h3
  generalize wholeB3 b id ws = B3
  obtain ⟨b3, e3⟩ := B3
  unfold wholeB4
  refine V_go (n := 1000) hT rfl ?_
  refine V_cond rfl (fun h4 => ?_) fun h4 => ?_
  · rw [if_pos (show (e3 != 0) = true from h4)]
    refine V_go (n := 1000) hT rfl ?_
    refine VD_start ?_
    refine VD_go hT rfl rfl ?_
    refine VD_end (n := 1000) hT rfl (by kernel_rfl) (by kernel_rfl) rfl rfl rfl ?_
    exact endsP rfl (WkA.refl _)
  rw [if_neg (show ¬ ((e3 != 0) = true) from by rw [show (e3 != 0) = false from h4]; simp)]
  refine V_go (n := 1000) hT rfl ?_
  refine VD_start ?_
  refine VD_go hT rfl rfl ?_
  refine VD_Y hT rfl rfl rfl rfl (yl_pure (bucket_Put b3 u.Key w.1 at_) rfl rfl rfl) rfl rfl rfl ?_
  refine VD_end (n := 1000) hT rfl (by kernel_rfl) (by kernel_rfl) rfl rfl rfl ?_
  generalize putB (b3, e3).1 u.Key w.1 at_ = Z
  obtain ⟨out, n, e⟩ := Z
  refine V_cond rfl (fun h9 => ?_) fun h9 => ?_
  · rw [if_pos (show (e != 0) = true from h9)]
    refine V_go (n := 1000) hT rfl ?_
    exact endsP rfl (WkA.refl _)
  · rw [if_neg (show ¬ ((e != 0) = true) from by rw [show (e != 0) = false from h9]; simp)]
    refine V_go (n := 1000) hT rfl ?_
    exact endsP rfl (WkA.refl _)
end Go.Cel

set_option linter.unusedVariables false
set_option maxRecDepth 100000
set_option maxHeartbeats 4000000
namespace Go.Cel
open Go.Proofs Go.IntWalk

abbrev boxB : ByteArray := ⟨#[98,111,120]⟩
abbrev aB : ByteArray := ⟨#[97]⟩
abbrev xB : ByteArray := ⟨#[120]⟩
abbrev yB : ByteArray := ⟨#[121]⟩
abbrev kkB : ByteArray := ⟨#[107]⟩
abbrev whB : ByteArray := ⟨#[119,104,111,108,101]⟩
abbrev bk0 : Bucket := ⟨boxB, 0, [], [], 0⟩
abbrev bkx : Bucket := ⟨boxB, 0, [⟨aB, [⟨0, xB, false, 0⟩]⟩], [], 0⟩
abbrev bky (s : Int) : Bucket := ⟨boxB, s, [⟨aB, [⟨0, yB, false, 0⟩]⟩], [], 0⟩
abbrev bkm : Bucket := ⟨boxB, 1, [⟨aB, [⟨1, ⟨#[]⟩, true, 1⟩, ⟨0, yB, false, 0⟩]⟩], [], 1⟩
abbrev bkd : Bucket := ⟨boxB, 1, [⟨aB, [⟨0, yB, false, 0⟩]⟩], [], 1⟩
abbrev bku (l : List Part) : Bucket := ⟨boxB, 1, [⟨aB, [⟨0, yB, false, 0⟩]⟩], [⟨1, kkB, l⟩], 1⟩
abbrev bkw : Bucket := ⟨boxB, 1, [⟨aB, [⟨0, yB, false, 0⟩]⟩, ⟨kkB, [⟨2, whB, false, 2⟩]⟩], [], 2⟩
theorem aw0 : newB boxB = (bk0, 0) := by kernel_rfl
theorem aw1 : putB bk0 aB xB 0 = (bkx, 0, 0) := by kernel_rfl
theorem aw2 : putB bkx aB yB 0 = (bky 0, 0, 0) := by kernel_rfl
theorem aw3 : deleteB (bky 0) aB 0 = (bk0, 0, 0) := by kernel_rfl
theorem aw4 : turnB (bky 0) 1 = (bky 1, 0) := by kernel_rfl
theorem aw5 : deleteB (bky 1) aB 1 = (bkm, 1, 0) := by kernel_rfl
theorem aw6 : (getB bkm aB).2 = 13 := by kernel_rfl
theorem aw7 : dropB bkm aB 1 = (bkd, 0) := by kernel_rfl
theorem aw8 : getB bkd aB = (⟨0, yB, false, 0⟩, 0) := by kernel_rfl
theorem aw9 : beginB (bky 1) kkB = (bku [], 1, 0) := by kernel_rfl
theorem ofT_wh : ofT whB = 2846740396 := by kernel_rfl

theorem aw10 : layB (bku []) 1 ⟨1, whB⟩ = (bku [⟨1, whB⟩], 2846740396, 0) := by kernel_rfl
theorem aw11 : wholeB (bku [⟨1, whB⟩]) 1 [⟨1, 2846740396⟩] 2 = (bkw, 2, ⟨#[56, 51, 101, 98, 57, 55, 97, 100, 45, 49]⟩, 0) := by kernel_rfl
theorem aw12 : getB bkw kkB = (⟨2, whB, false, 2⟩, 0) := by kernel_rfl
theorem aw13 : (catW (findUp [⟨1, kkB, [⟨1, whB⟩]⟩] 1).1 [⟨1, 2846740396⟩]).size ≠ 0 := by decide

theorem awk : True := trivial
theorem law_awake : Pure Tryz.prog 14 [] (dl (.bool true)) := by
  have c0 : Pure Tryz.prog 26 [bD (.str boxB)] (rBE (bk0, 0)) := by have := bucket_New boxB; rwa [aw0] at this
  have c1 : Pure Tryz.prog 19 [bBucket bk0, bD (.str aB), bD (.str xB), bD (.int .i64 0)] (rBNE (bkx, 0, 0)) := by have := bucket_Put bk0 aB xB 0; rwa [aw1] at this
  have c2 : Pure Tryz.prog 19 [bBucket bkx, bD (.str aB), bD (.str yB), bD (.int .i64 0)] (rBNE (bky 0, 0, 0)) := by have := bucket_Put bkx aB yB 0; rwa [aw2] at this
  have c3 : Pure Tryz.prog 39 [bBucket (bky 0), bD (.str aB), bD (.int .i64 0)] (rBNE (bk0, 0, 0)) := by have := bucket_Delete (bky 0) aB 0; rwa [aw3] at this
  have c4 : Pure Tryz.prog 27 [bBucket (bky 0), bD (.int .i64 1)] (rBE (bky 1, 0)) := by have := bucket_Turn (bky 0) 1; rwa [aw4] at this
  have c5 : Pure Tryz.prog 39 [bBucket (bky 1), bD (.str aB), bD (.int .i64 1)] (rBNE (bkm, 1, 0)) := by have := bucket_Delete (bky 1) aB 1; rwa [aw5] at this
  have c6 : Pure Tryz.prog 18 [bBucket bkm, bD (.str aB)] (rVE ((getB bkm aB).1, 13)) := by have := bucket_Get bkm aB; rwa [show getB bkm aB = ((getB bkm aB).1, 13) from Prod.ext rfl aw6] at this
  have c7 : Pure Tryz.prog 40 [bBucket bkm, bD (.str aB), bD (.int .u64 1)] (rBE (bkd, 0)) := by have := bucket_Drop bkm aB 1; rwa [aw7] at this
  have c8 : Pure Tryz.prog 18 [bBucket bkd, bD (.str aB)] (rVE (⟨0, yB, false, 0⟩, 0)) := by have := bucket_Get bkd aB; rwa [aw8] at this
  have c9 : Pure Tryz.prog 12 [bBucket (bky 1), bD (.str kkB)] (rBNE (bku [], 1, 0)) := by have := bucket_Begin (bky 1) kkB; rwa [aw9] at this
  have c10 : Pure Tryz.prog 15 [bBucket (bku []), bD (.int .u64 1), bPart ⟨1, whB⟩] (rBTE (bku [⟨1, whB⟩], 2846740396, 0)) := by have := bucket_Lay (bku []) 1 ⟨1, whB⟩; rwa [aw10] at this
  have c11 : Pure Tryz.prog 17 [bBucket (bku [⟨1, whB⟩]), bD (.int .u64 1), bD (dPieces [⟨1, 2846740396⟩]), bD (.int .i64 2)] (rBNTE (bkw, 2, ⟨#[56, 51, 101, 98, 57, 55, 97, 100, 45, 49]⟩, 0)) := by have := bucket_Whole (bku [⟨1, whB⟩]) 1 [⟨1, 2846740396⟩] 2 (by decide) (fun _ => aw13); rwa [aw11] at this
  have c12 : Pure Tryz.prog 18 [bBucket bkw, bD (.str kkB)] (rVE (⟨2, whB, false, 2⟩, 0)) := by have := bucket_Get bkw kkB; rwa [aw12] at this
  have c13 : Pure Tryz.prog 41 [bBucket bk0] (dl (.bool true)) := bucket_Empty bk0
  generalize (getB bkm aB).1 = vm at c6
  refine pure_intro hT Tryz.func14 rfl (by kernel_rfl) rfl rfl fun X hX => ?_
  refine V_go (n := 1000) hT rfl ?_
  refine VL_Y (n := 1000) hT (yl_pure c0 rfl rfl rfl) rfl rfl rfl ?_
  refine VL_Y (n := 1000) hT (yl_pure c1 rfl rfl rfl) rfl rfl rfl ?_
  refine VL_Y (n := 1000) hT (yl_pure c2 rfl rfl rfl) rfl rfl rfl ?_
  refine VL_Y (n := 1000) hT (yl_pure c3 rfl rfl rfl) rfl rfl rfl ?_
  refine VL_Y (n := 1000) hT (yl_pure c4 rfl rfl rfl) rfl rfl rfl ?_
  refine VL_Y (n := 1000) hT (yl_pure c5 rfl rfl rfl) rfl rfl rfl ?_
  refine VL_Y (n := 1000) hT (yl_pure c6 rfl rfl rfl) rfl rfl rfl ?_
  refine VL_Y (n := 1000) hT (yl_pure c7 rfl rfl rfl) rfl rfl rfl ?_
  refine VL_Y (n := 1000) hT (yl_pure c8 rfl rfl rfl) rfl rfl rfl ?_
  refine VL_Y (n := 1000) hT (yl_pure c9 rfl rfl rfl) rfl rfl rfl ?_
  refine VL_Y (n := 1000) hT (yl_pure c10 rfl rfl rfl) rfl rfl rfl ?_
  refine VL_T (n := 1000) hT 20 rfl (tl_buildSlice (n := 19) hT rfl rfl rfl rfl rfl rfl rfl rfl) rfl rfl rfl ?_
  refine VL_ghost hX (ghost_freeze 19 rfl) ?_
  refine VL_Y (n := 1000) hT (yl_pure c11 rfl rfl rfl) rfl rfl rfl ?_
  refine VL_Y (n := 1000) hT (yl_pure c12 rfl rfl rfl) rfl rfl rfl ?_
  refine VL_Yp (n := 1000) hT rfl (yl_pure c13 rfl rfl rfl) rfl rfl ?_
  exact endsP rfl (WkA.refl _)
end Go.Cel

set_option linter.unusedVariables false
set_option maxRecDepth 100000
set_option maxHeartbeats 4000000
namespace Go.Cel
open Go.Proofs Go.IntWalk

structure ActA where
  Kind : Int
  Key : ByteArray
  Data : ByteArray
  ID : Int
  N : Int
  At : Int
  Pieces : List Piece
abbrev eAct (a : ActA) : List D := [.int .u8 a.Kind, .str a.Key, .str a.Data, .int .u64 a.ID, .int .i64 a.N, .int .i64 a.At, dPieces a.Pieces]
abbrev bAct (a : ActA) : B := .agg [.d (.int .u8 a.Kind), .d (.str a.Key), .d (.str a.Data), .d (.int .u64 a.ID), .d (.int .i64 a.N), .d (.int .i64 a.At), .d (dPieces a.Pieces)]
def few80 (s : ByteArray) : ByteArray := if (80 : Int) < s.size then s.extract 0 80 else s
theorem law1_Few (s : ByteArray) : Pure Tryz.prog 11 [bD (.str s)] (dl (.str (few80 s))) := by
  refine pure_intro hT Tryz.func11 rfl (by kernel_rfl) rfl rfl fun X hX => ?_
  refine V_go (n := 1000) hT rfl ?_
  refine V_cond rfl (fun h1 => ?_) fun h1 => ?_
  · have h1' : (80 : Int) < s.size := by simpa using h1
    refine V_go (n := 1000) hT rfl ?_
    refine VL_Y (n := 1000) hT (yl_sliceStr hT 0 80 rfl rfl rfl rfl rfl rfl rfl rfl (by omega) (by omega)) rfl rfl rfl ?_
    unfold few80; rw [if_pos h1']
    exact endsP rfl (WkA.refl _)
  · have h1' : ¬ (80 : Int) < s.size := by simpa using h1
    refine V_go (n := 1000) hT rfl ?_
    unfold few80; rw [if_neg h1']
    exact endsP rfl (WkA.refl _)

def cutD (s : ByteArray) : ByteArray := if (2001 : Int) < s.size then s.extract 0 2001 else s
def cutP (l : List Piece) : List Piece := if (40 : Int) < l.length then l.take 40 else l
def cutA (a : ActA) : ActA := { a with Key := few80 a.Key, Data := cutD a.Data, Pieces := cutP a.Pieces }
abbrev oCut (a : ActA) : List (Nat × Blk) := [(0, .cells ((eAct a).map L.d) 59), (1, .cells [.d (.int .u8 0), .d (.str ⟨#[]⟩), .d (.str ⟨#[]⟩), .d (.int .u64 0), .d (.int .i64 0), .d (.int .i64 0), .d .nilsl] 59)]
theorem law_Cut (a : ActA) : Pure Tryz.prog 22 [bAct a] (.b (bAct (cutA a))) := by
  refine pure_intro hT Tryz.func22 rfl (by kernel_rfl) rfl rfl fun X hX => ?_
  refine V_go (n := 1000) hT rfl ?_
  refine VL_Y (n := 1000) hT (yl_pure (law1_Few a.Key) rfl rfl rfl) rfl rfl rfl ?_
  refine V_meet hX ⟨[(1, [], .b (.l (.ptr 0 0))), (2, [], .b (.l (.ptr 1 0)))], oCut { a with Key := few80 a.Key, Data := cutD a.Data }, 2, [], [], 24⟩ ?_ ?_
  · refine V_cond rfl (fun h1 => ?_) fun h1 => ?_
    · have h1' : (2001 : Int) < a.Data.size := by simpa using h1
      have hc : cutD a.Data = a.Data.extract 0 2001 := by unfold cutD; rw [if_pos h1']
      rw [hc]
      refine V_go (n := 1000) hT rfl ?_
      refine VL_Y (n := 1000) hT (yl_sliceStr hT 0 2001 rfl rfl rfl rfl rfl rfl rfl rfl (by omega) (by omega)) rfl rfl rfl ?_
      exact ghost_of [(0, 0), (1, 1)] rfl rfl rfl rfl rfl ⟨⟨rfl, rfl⟩, ⟨rfl, rfl⟩, trivial⟩ ⟨rfl, rfl, trivial⟩
    · have h1' : ¬ (2001 : Int) < a.Data.size := by simpa using h1
      have hc : cutD a.Data = a.Data := by unfold cutD; rw [if_neg h1']
      rw [hc]
      refine V_go (n := 1000) hT rfl ?_
      exact ghost_of [(0, 0), (1, 1)] rfl rfl rfl rfl rfl ⟨⟨rfl, rfl⟩, ⟨rfl, rfl⟩, trivial⟩ ⟨rfl, rfl, trivial⟩
  refine V_go (n := 1000) hT rfl ?_
  refine V_meet hX ⟨[(1, [], .b (.l (.ptr 0 0))), (2, [], .b (.l (.ptr 1 0)))], oCut (cutA a), 2, [], [], 24⟩ ?_ ?_
  · refine V_cond rfl (fun h1 => ?_) fun h1 => ?_
    · have h1' : (40 : Int) < a.Pieces.length := by simpa using h1
      have hc : cutA a = { a with Key := few80 a.Key, Data := cutD a.Data, Pieces := a.Pieces.take 40 } := by unfold cutA cutP; rw [if_pos h1']
      rw [hc]
      refine V_go (n := 1000) hT rfl ?_
      refine VL_Y (n := 1000) hT (yl_sliceSeq hT 0 40 rfl rfl rfl rfl rfl rfl rfl rfl rfl (by omega) (by simp; omega)) rfl rfl rfl ?_
      refine ghost_of [(0, 0), (1, 1)] rfl rfl rfl rfl rfl ⟨⟨rfl, rfl⟩, ⟨rfl, rfl⟩, trivial⟩ ⟨?_, rfl, trivial⟩
      simp only [oCut, eAct, dPieces, List.map_take]
      rfl
    · have h1' : ¬ (40 : Int) < a.Pieces.length := by simpa using h1
      have hc : cutA a = { a with Key := few80 a.Key, Data := cutD a.Data } := by unfold cutA cutP; rw [if_neg h1']
      rw [hc]
      refine V_go (n := 1000) hT rfl ?_
      exact ghost_of [(0, 0), (1, 1)] rfl rfl rfl rfl rfl ⟨⟨rfl, rfl⟩, ⟨rfl, rfl⟩, trivial⟩ ⟨rfl, rfl, trivial⟩
  refine V_go (n := 1000) hT rfl ?_
  exact endsP rfl (WkA.refl _)
end Go.Cel

set_option linter.unusedVariables false
set_option maxRecDepth 100000
set_option maxHeartbeats 4000000
namespace Go.Cel
open Go.Proofs Go.IntWalk

structure DidA where
  B : Bucket
  ID : Int
  T : ByteArray
  E : Int
abbrev bDid (d : DidA) : B := .agg [.d (.str d.B.Name), .d (.int .i64 d.B.State), .d (dEntries d.B.L), .d (dUploads d.B.Up), .d (.int .u64 d.B.Last), .d (.int .u64 d.ID), .d (.str d.T), .d (.int .i64 d.E)]
def kindA (a : ActA) : Int := a.Kind.tmod 9
def doA (b : Bucket) (a : ActA) : DidA :=
  if kindA a == 0 || kindA a == 1 then ⟨(putB b a.Key a.Data a.At).1, (putB b a.Key a.Data a.At).2.1, ⟨#[]⟩, (putB b a.Key a.Data a.At).2.2⟩
  else if kindA a == 2 then ⟨(deleteB b a.Key a.At).1, (deleteB b a.Key a.At).2.1, ⟨#[]⟩, (deleteB b a.Key a.At).2.2⟩
  else if kindA a == 3 then ⟨(dropB b a.Key a.ID).1, 0, ⟨#[]⟩, (dropB b a.Key a.ID).2⟩
  else if kindA a == 4 then ⟨(turnB b a.N).1, 0, ⟨#[]⟩, (turnB b a.N).2⟩
  else if kindA a == 5 then ⟨(beginB b a.Key).1, (beginB b a.Key).2.1, ⟨#[]⟩, (beginB b a.Key).2.2⟩
  else if kindA a == 6 then ⟨(layB b a.ID ⟨a.N, a.Data⟩).1, IntKind.u64.wrap (layB b a.ID ⟨a.N, a.Data⟩).2.1, ⟨#[]⟩, (layB b a.ID ⟨a.N, a.Data⟩).2.2⟩
  else if kindA a == 7 then ⟨(abortB b a.ID).1, 0, ⟨#[]⟩, (abortB b a.ID).2⟩
  else ⟨(wholeB b a.ID a.Pieces a.At).1, (wholeB b a.ID a.Pieces a.At).2.1, (wholeB b a.ID a.Pieces a.At).2.2.1, (wholeB b a.ID a.Pieces a.At).2.2.2⟩
def wholeNeeds (b : Bucket) (a : ActA) : Prop := (kindA a == 0 || kindA a == 1) = false → (kindA a == 2) = false → (kindA a == 3) = false → (kindA a == 4) = false → (kindA a == 5) = false → (kindA a == 6) = false → (kindA a == 7) = false →
  a.Pieces.length < 100 ∧ ((wholeU (findUp b.Up a.ID).1 a.Pieces).2.2 = 0 → (catW (findUp b.Up a.ID).1 a.Pieces).size ≠ 0)
abbrev zDid : List L := [.d (.str ⟨#[]⟩), .d (.int .i64 0), .d .nilsl, .d .nilsl, .d (.int .u64 0), .d (.int .u64 0), .d (.str ⟨#[]⟩), .d (.int .i64 0)]

theorem law_Do (b : Bucket) (a : ActA) (hn : wholeNeeds b a) : Pure Tryz.prog 23 [bBucket b, bAct a] (.b (bDid (doA b a))) := by
  have key : ∀ k : Int, kindA a = k → True := fun _ _ => trivial
  have hd : doA b a = if kindA a == 0 || kindA a == 1 then ⟨(putB b a.Key a.Data a.At).1, (putB b a.Key a.Data a.At).2.1, ⟨#[]⟩, (putB b a.Key a.Data a.At).2.2⟩
    else if kindA a == 2 then ⟨(deleteB b a.Key a.At).1, (deleteB b a.Key a.At).2.1, ⟨#[]⟩, (deleteB b a.Key a.At).2.2⟩
    else if kindA a == 3 then ⟨(dropB b a.Key a.ID).1, 0, ⟨#[]⟩, (dropB b a.Key a.ID).2⟩
    else if kindA a == 4 then ⟨(turnB b a.N).1, 0, ⟨#[]⟩, (turnB b a.N).2⟩
    else if kindA a == 5 then ⟨(beginB b a.Key).1, (beginB b a.Key).2.1, ⟨#[]⟩, (beginB b a.Key).2.2⟩
    else if kindA a == 6 then ⟨(layB b a.ID ⟨a.N, a.Data⟩).1, IntKind.u64.wrap (layB b a.ID ⟨a.N, a.Data⟩).2.1, ⟨#[]⟩, (layB b a.ID ⟨a.N, a.Data⟩).2.2⟩
    else if kindA a == 7 then ⟨(abortB b a.ID).1, 0, ⟨#[]⟩, (abortB b a.ID).2⟩
    else ⟨(wholeB b a.ID a.Pieces a.At).1, (wholeB b a.ID a.Pieces a.At).2.1, (wholeB b a.ID a.Pieces a.At).2.2.1, (wholeB b a.ID a.Pieces a.At).2.2.2⟩ := rfl
  rw [hd]
  clear hd key
  refine pure_intro hT Tryz.func23 rfl (by kernel_rfl) rfl rfl fun X hX => ?_
  refine V_go (n := 1000) hT rfl ?_
  refine V_meet hX ⟨[(30, [], dl (.bool (kindA a == 0 || kindA a == 1))), (12, [], dl (.int .u8 (kindA a))), (2, [], .b (.l (.ptr 0 0))), (3, [], .b (.l (.ptr 1 0))), (4, [], .b (.l (.ptr 2 0))), (5, [], .b (.l (.ptr 3 0)))],
    [(0, .cells (cBucket b) 26), (1, .cells ((eAct a).map L.d) 59), (2, .cells zDid 62), (3, .cells zDid 62)], 4, [], [], 134⟩ ?_ ?_
  · refine V_cond rfl (fun h1 => ?_) fun h1 => ?_
    · refine V_go (n := 1000) hT rfl ?_
      have h1' : (kindA a == 0) = true := h1
      rw [h1', Bool.true_or]
      refine ghost_of [(0, 0), (1, 1), (2, 2), (3, 3)] rfl rfl rfl rfl rfl ⟨⟨rfl, ?_⟩, ⟨rfl, rfl⟩, ⟨rfl, rfl⟩, ⟨rfl, rfl⟩, ⟨rfl, rfl⟩, ⟨rfl, rfl⟩, trivial⟩ ⟨rfl, rfl, rfl, rfl, trivial⟩
      exact congrArg (fun x => some (([] : Path), dl (.bool x))) h1
    · have h1' : (kindA a == 0) = false := h1
      rw [h1', Bool.false_or]
      refine V_go (n := 1000) hT rfl ?_
      exact ghost_of [(0, 0), (1, 1), (2, 2), (3, 3)] rfl rfl rfl rfl rfl ⟨⟨rfl, rfl⟩, ⟨rfl, rfl⟩, ⟨rfl, rfl⟩, ⟨rfl, rfl⟩, ⟨rfl, rfl⟩, ⟨rfl, rfl⟩, trivial⟩ ⟨rfl, rfl, rfl, rfl, trivial⟩
  unfold wholeNeeds at hn
  generalize kindA a = k at hn
  refine V_cond rfl (fun h0 => ?_) fun h0 => ?_
  · rw [if_pos (show (k == 0 || k == 1) = true from h0)]
    refine V_go (n := 1000) hT rfl ?_
    refine VL_Y (n := 1000) hT (yl_pure (bucket_Put b a.Key a.Data a.At) rfl rfl rfl) rfl rfl rfl ?_
    exact endsP rfl (WkA.refl _)
  rw [if_neg (show ¬ ((k == 0 || k == 1) = true) from by rw [show (k == 0 || k == 1) = false from h0]; simp)]
  refine V_go (n := 1000) hT rfl ?_
  refine V_cond rfl (fun h1 => ?_) fun h1 => ?_
  · rw [if_pos (show (k == 2) = true from h1)]
    refine V_go (n := 1000) hT rfl ?_
    refine VL_Y (n := 1000) hT (yl_pure (bucket_Delete b a.Key a.At) rfl rfl rfl) rfl rfl rfl ?_
    exact endsP rfl (WkA.refl _)
  rw [if_neg (show ¬ ((k == 2) = true) from by rw [show (k == 2) = false from h1]; simp)]
  refine V_go (n := 1000) hT rfl ?_
  refine V_cond rfl (fun h2 => ?_) fun h2 => ?_
  · rw [if_pos (show (k == 3) = true from h2)]
    refine V_go (n := 1000) hT rfl ?_
    refine VL_Y (n := 1000) hT (yl_pure (bucket_Drop b a.Key a.ID) rfl rfl rfl) rfl rfl rfl ?_
    exact endsP rfl (WkA.refl _)
  rw [if_neg (show ¬ ((k == 3) = true) from by rw [show (k == 3) = false from h2]; simp)]
  refine V_go (n := 1000) hT rfl ?_
  refine V_cond rfl (fun h3 => ?_) fun h3 => ?_
  · rw [if_pos (show (k == 4) = true from h3)]
    refine V_go (n := 1000) hT rfl ?_
    refine VL_Y (n := 1000) hT (yl_pure (bucket_Turn b a.N) rfl rfl rfl) rfl rfl rfl ?_
    exact endsP rfl (WkA.refl _)
  rw [if_neg (show ¬ ((k == 4) = true) from by rw [show (k == 4) = false from h3]; simp)]
  refine V_go (n := 1000) hT rfl ?_
  refine V_cond rfl (fun h4 => ?_) fun h4 => ?_
  · rw [if_pos (show (k == 5) = true from h4)]
    refine V_go (n := 1000) hT rfl ?_
    refine VL_Y (n := 1000) hT (yl_pure (bucket_Begin b a.Key) rfl rfl rfl) rfl rfl rfl ?_
    exact endsP rfl (WkA.refl _)
  rw [if_neg (show ¬ ((k == 5) = true) from by rw [show (k == 5) = false from h4]; simp)]
  refine V_go (n := 1000) hT rfl ?_
  refine V_cond rfl (fun h5 => ?_) fun h5 => ?_
  · rw [if_pos (show (k == 6) = true from h5)]
    refine V_go (n := 1000) hT rfl ?_
    refine VL_Y (n := 1000) hT (yl_pure (bucket_Lay b a.ID ⟨a.N, a.Data⟩) rfl rfl rfl) rfl rfl rfl ?_
    exact endsP rfl (WkA.refl _)
  rw [if_neg (show ¬ ((k == 6) = true) from by rw [show (k == 6) = false from h5]; simp)]
  refine V_go (n := 1000) hT rfl ?_
  refine V_cond rfl (fun h6 => ?_) fun h6 => ?_
  · rw [if_pos (show (k == 7) = true from h6)]
    refine V_go (n := 1000) hT rfl ?_
    refine VL_Y (n := 1000) hT (yl_pure (bucket_Abort b a.ID) rfl rfl rfl) rfl rfl rfl ?_
    exact endsP rfl (WkA.refl _)
  rw [if_neg (show ¬ ((k == 7) = true) from by rw [show (k == 7) = false from h6]; simp)]
  refine V_go (n := 1000) hT rfl ?_
  obtain ⟨hw, hne⟩ := hn h0 h1 h2 h3 h4 h5 h6
  refine VL_Y (n := 1000) hT (yl_pure (bucket_Whole b a.ID a.Pieces a.At hw hne) rfl rfl rfl) rfl rfl rfl ?_
  exact endsP rfl (WkA.refl _)
end Go.Cel

set_option linter.unusedVariables false
set_option maxRecDepth 100000
set_option maxHeartbeats 4000000
namespace Go.Cel
open Go.Proofs Go.IntWalk

abbrev MS := List (ByteArray × ByteArray)
abbrev mapS (m : MS) : List (B × B) := m.map fun q => (bD (.str q.1), bD (.str q.2))
def findS (k : ByteArray) : MS → Nat → Option (Nat × ByteArray)
  | [], _ => none
  | (q, v) :: r, i => if k == q then some (i, v) else findS k r (i + 1)
theorem findS_eq (k : ByteArray) : ∀ (m : MS) (i : Nat), findM (.str k) (mapS m) i = some ((findS k m i).map fun q => (q.1, bD (.str q.2)))
  | [], _ => rfl
  | (q, v) :: r, i => by
    have ih := findS_eq k r (i + 1)
    simp only [mapS, List.map_cons, findM, keyEq, findS]
    cases h : k == q with
    | true => simp
    | false => simpa using ih
def updS (k d : ByteArray) (m : MS) : MS := match findS k m 0 with | none => m ++ [(k, d)] | some (i, _) => m.modify i fun q => (q.1, d)
def delS (k : ByteArray) (m : MS) : MS := match findS k m 0 with | none => m | some (i, _) => m.eraseIdx i
theorem modify_map {α β : Type} (f : α → β) (g : α → α) (g' : β → β) (h : ∀ x, f (g x) = g' (f x)) : ∀ (l : List α) (i : Nat), (l.modify i g).map f = (l.map f).modify i g'
  | [], i => by simp
  | x :: r, 0 => by simp [h]
  | x :: r, i + 1 => by simp [modify_map f g g' h r i]
theorem erase_map {α β : Type} (f : α → β) : ∀ (l : List α) (i : Nat), (l.eraseIdx i).map f = (l.map f).eraseIdx i
  | [], i => by simp
  | x :: r, 0 => by simp
  | x :: r, i + 1 => by simp [erase_map f r i]
theorem updS_eq (k d : ByteArray) (m : MS) : updM (.str k) (bD (.str d)) (mapS m) ((findS k m 0).map fun q => (q.1, bD (.str q.2))) = mapS (updS k d m) := by
  unfold updS
  cases h : findS k m 0 with
  | none => simp [updM, mapS]
  | some x =>
    obtain ⟨i, v⟩ := x
    simp only [Option.map_some, updM, mapS]
    exact (modify_map (fun q : ByteArray × ByteArray => (bD (.str q.1), bD (.str q.2))) _ _ (fun x => rfl) m i).symm
theorem delS_eq (k : ByteArray) (m : MS) : delM (mapS m) ((findS k m 0).map fun q => (q.1, bD (.str q.2))) = mapS (delS k m) := by
  unfold delS
  cases h : findS k m 0 with
  | none => simp [delM]
  | some x =>
    obtain ⟨i, v⟩ := x
    simp only [Option.map_some, delM]
    exact (erase_map _ m i).symm

/-- what the map says of a key. -/
def lookS (k : ByteArray) (m : MS) : ByteArray × Bool := match findS k m 0 with | none => (⟨#[]⟩, false) | some (_, v) => (v, true)
theorem lookS_eq (k : ByteArray) (m : MS) : lookA (bD (.str ⟨#[]⟩)) true ((findS k m 0).map fun q => (q.1, bD (.str q.2))) = .tup [bD (.str (lookS k m).1), bD (.bool (lookS k m).2)] := by
  unfold lookS
  cases h : findS k m 0 with
  | none => rfl
  | some x => obtain ⟨i, v⟩ := x; rfl

def offAct (a : ActA) (i : Nat) : ActA := { cutA a with At := i }
def offM1 (d : DidA) (a : ActA) (m : MS) : MS := if d.E == 0 && decide (kindA a < 2) then updS a.Key a.Data m else m
def offM2 (d : DidA) (a : ActA) (m : MS) : MS := if d.E == 0 && kindA a == 2 then delS a.Key m else m
def offBad1 (d : DidA) : Bool := d.ID != 0 || d.B.Last != 0
def offBad2 (b : Bucket) (key : ByteArray) (m : MS) : Bool :=
  (!(((getB b key).2 == 0) == (lookS key m).2) || ((lookS key m).2 && !((getB b key).1.Data == (lookS key m).1))) || ((b.L.length : Int) != (m.length : Int))
def offStep (b : Bucket) (m : MS) (i : Nat) (a : ActA) : Option (Bucket × MS) :=
  if decide (2 < kindA (cutA a)) then some (b, m)
  else
    let a1 := offAct a i
    let d := doA b a1
    if offBad1 d then none else if offBad2 d.B a1.Key (offM2 d a1 (offM1 d a1 m)) then none else some (d.B, offM2 d a1 (offM1 d a1 m))
def offRun (l : List ActA) : Nat → Option (Bucket × MS)
  | 0 => some (bk0, [])
  | i + 1 => match offRun l i with
    | none => none
    | some (b, m) => match l[i]? with
      | none => some (b, m)
      | some a => offStep b m i a
instance : Inhabited ActA := ⟨⟨0, empty, empty, 0, 0, 0, []⟩⟩
abbrev dActs (l : List ActA) : D := .seq 59 (l.map eAct)
abbrev offS (l : List ActA) (b : Bucket) (m : MS) (i : Nat) : St := ⟨[(6, [], dl (.int .i64 i)), (0, [], dl (dActs l)), (3, [], .b (.l (.ptr 0 0))), (5, [], .b (.l (.omap 1)))], [(0, .cells (cBucket b) 26), (1, .map 71 (mapS m))], 2, [], [], 115⟩
abbrev didC (d : DidA) : List L := [.d (.str d.B.Name), .d (.int .i64 d.B.State), .d (dEntries d.B.L), .d (dUploads d.B.Up), .d (.int .u64 d.B.Last), .d (.int .u64 d.ID), .d (.str d.T), .d (.int .i64 d.E)]
abbrev offS1 (l : List ActA) (b : Bucket) (m : MS) (i : Nat) (a : ActA) (d : DidA) : St := ⟨[(6, [], dl (.int .i64 i)), (0, [], dl (dActs l)), (3, [], .b (.l (.ptr 0 0))), (5, [], .b (.l (.omap 1))), (7, [], .b (.l (.ptr 2 0))), (8, [], dl (.int .u8 (kindA a))), (9, [], .b (.l (.ptr 3 0)))],
  [(0, .cells (cBucket b) 26), (1, .map 71 (mapS m)), (2, .cells ((eAct a).map L.d) 59), (3, .cells (didC d) 62)], 4, [], [], 115⟩

theorem law_Off (l : List ActA) (h0 : ∀ a, a ∈ l → 0 ≤ a.Kind) (H : ∀ i, (offRun l i).isSome = true) : Pure Tryz.prog 7 [bD (dActs l)] (dl (.bool true)) := by
  have c0 : Pure Tryz.prog 26 [bD (.str boxB)] (rBE (bk0, 0)) := by have := bucket_New boxB; rwa [aw0] at this
  refine pure_intro hT Tryz.func7 rfl (by kernel_rfl) rfl rfl fun X hX => ?_
  refine V_go (n := 1000) hT rfl ?_
  refine VL_Y (n := 1000) hT (yl_pure c0 rfl rfl rfl) rfl rfl rfl ?_
  refine V_condF rfl rfl ?_
  refine V_go (n := 1000) hT rfl ?_
  refine VL_T (n := 1000) hT 2 rfl (tl_makeMap (n := 1) rfl rfl rfl) rfl rfl rfl ?_
  refine V_loop hX (fun (x : Nat × Bucket × MS) => offS l x.2.1 x.2.2 x.1) (fun x => x.1 ≤ l.length ∧ x.1 ≤ 30 ∧ offRun l x.1 = some (x.2.1, x.2.2)) (fun x => l.length - x.1) (0, bk0, []) ?_ ⟨Nat.zero_le _, by decide, rfl⟩ fun x hx => ?_
  · exact ghost_of [(0, 0), (1, 1)] rfl rfl rfl rfl rfl ⟨⟨rfl, rfl⟩, ⟨rfl, rfl⟩, ⟨rfl, rfl⟩, ⟨rfl, rfl⟩, trivial⟩ ⟨rfl, rfl, trivial⟩
  obtain ⟨i, b, m⟩ := x
  obtain ⟨hi, hi30, hr⟩ := hx
  simp only at hi hr hi30
  dsimp only [offS]
  refine V_go (n := 1000) hT rfl ?_
  have hml : (l.map eAct).length = l.length := List.length_map ..
  refine V_cond rfl (fun hlt => ?_) fun hge => ?_
  · have hlt2 : (decide ((i : Int) < ((l.map eAct).length : Int)) && decide ((i : Int) < 30)) = true := hlt
    rw [hml] at hlt2
    have hlt' : i < l.length := by simp at hlt2; omega
    have hlt3 : i < 30 := by simp at hlt2; omega
    have hw := i64_succ (n := i) (by omega)
    have hrs : offRun l (i + 1) = offStep b m i (l.getD i default) := by
      rw [offRun, hr]
      simp [List.getElem?_eq_getElem hlt', List.getD_eq_getElem?_getD]
    have hsome := H (i + 1)
    rw [hrs] at hsome
    have ha0 := h0 _ (mem_getD hlt')
    refine V_go (n := 1000) hT rfl ?_
    refine VL_Y (n := 1000) hT (yl_indexAddr (n := i) (cs := eAct (l.getD i default)) hT rfl rfl rfl rfl rfl rfl rfl (get_map hlt')) rfl rfl rfl ?_
    generalize l.getD i default = a at hsome hrs ha0
    refine VL_Y (n := 1000) hT (yl_pure (law_Cut a) rfl rfl rfl) rfl rfl rfl ?_
    unfold offStep at hsome hrs
    refine V_cond rfl (fun h1 => ?_) fun h1 => ?_
    · rw [if_pos (show decide (2 < kindA (cutA a)) = true from h1)] at hrs
      refine V_go (n := 1000) hT rfl ?_
      refine ⟨(i + 1, b, m), ⟨hlt', by simp only; omega, hrs⟩, by simp only; omega, ?_⟩
      exact ghost_of [(0, 0), (1, 1)] rfl rfl rfl rfl rfl ⟨⟨rfl, congrArg (fun z => some (([] : Path), dl (.int .i64 z))) hw⟩, ⟨rfl, rfl⟩, ⟨rfl, rfl⟩, ⟨rfl, rfl⟩, trivial⟩ ⟨rfl, rfl, trivial⟩
    rw [if_neg (by rw [show decide (2 < kindA (cutA a)) = false from h1]; simp)] at hsome hrs
    have hk : kindA (offAct a i) = kindA (cutA a) := rfl
    have hkk : kindA (cutA a) = 0 ∨ kindA (cutA a) = 1 ∨ kindA (cutA a) = 2 := by
      have h2 : ¬ (2 < kindA (cutA a)) := of_decide_eq_false h1
      have h3 : 0 ≤ kindA (cutA a) := Int.tmod_nonneg _ ha0
      omega
    refine V_go (n := 1000) hT rfl ?_
    have hwn : wholeNeeds b (offAct a i) := by
      unfold wholeNeeds
      rw [hk]
      intro q0 q1 _ _ _ _ _
      rcases hkk with e | e | e <;> rw [e] at q0 q1 <;> simp at q0 q1
    refine VL_Y (n := 1000) hT (yl_pure (law_Do b (offAct a i) hwn) rfl rfl rfl) rfl rfl rfl ?_
    simp only at hsome hrs
    generalize hd : doA b (offAct a i) = d at hsome hrs
    refine V_cond rfl (fun h2 => ?_) fun h2 => ?_
    · exfalso
      rw [if_pos (show offBad1 d = true from h2)] at hsome
      simp at hsome
    rw [if_neg (by rw [show offBad1 d = false from h2]; simp)] at hsome hrs
    refine V_go (n := 1000) hT rfl ?_
    refine V_meet hX (offS1 l b (offM1 d (offAct a i) m) i (offAct a i) d) ?_ ?_
    · refine V_cond rfl (fun h3 => ?_) fun h3 => ?_
      · have e1 : offM1 d (offAct a i) m = updS (offAct a i).Key (offAct a i).Data m := by unfold offM1; rw [if_pos (show (d.E == 0 && decide (kindA (offAct a i) < 2)) = true from h3)]
        rw [e1]
        refine V_go (n := 1000) hT rfl ?_
        refine VL_T (n := 1000) hT 4 rfl (tl_mapUpdate hT (.inl rfl) rfl rfl rfl rfl rfl rfl rfl rfl (findS_eq _ m 0)) rfl rfl rfl ?_
        refine ghost_of [(0, 0), (1, 1), (2, 2), (3, 3)] rfl rfl rfl rfl rfl ⟨⟨rfl, rfl⟩, ⟨rfl, rfl⟩, ⟨rfl, rfl⟩, ⟨rfl, rfl⟩, ⟨rfl, rfl⟩, ⟨rfl, rfl⟩, ⟨rfl, rfl⟩, trivial⟩ ⟨rfl, ?_, rfl, rfl, trivial⟩
        exact congrArg (fun z => some (Blk.map 71 z)) (updS_eq (offAct a i).Key (offAct a i).Data m)
      · have e1 : offM1 d (offAct a i) m = m := by unfold offM1; rw [if_neg (by rw [show (d.E == 0 && decide (kindA (offAct a i) < 2)) = false from h3]; simp)]
        rw [e1]
        refine V_go (n := 1000) hT rfl ?_
        exact ghost_of [(0, 0), (1, 1), (2, 2), (3, 3)] rfl rfl rfl rfl rfl ⟨⟨rfl, rfl⟩, ⟨rfl, rfl⟩, ⟨rfl, rfl⟩, ⟨rfl, rfl⟩, ⟨rfl, rfl⟩, ⟨rfl, rfl⟩, ⟨rfl, rfl⟩, trivial⟩ ⟨rfl, rfl, rfl, rfl, trivial⟩
    generalize offM1 d (offAct a i) m = m1 at hsome hrs
    refine V_go (n := 1000) hT rfl ?_
    refine V_meet hX (offS1 l b (offM2 d (offAct a i) m1) i (offAct a i) d) ?_ ?_
    · refine V_cond rfl (fun h3 => ?_) fun h3 => ?_
      · have e1 : offM2 d (offAct a i) m1 = delS (offAct a i).Key m1 := by unfold offM2; rw [if_pos (show (d.E == 0 && kindA (offAct a i) == 2) = true from h3)]
        rw [e1]
        refine V_go (n := 1000) hT rfl ?_
        refine VL_T (n := 1000) hT 4 rfl (tl_delete hT rfl rfl rfl rfl rfl rfl rfl rfl rfl (findS_eq _ m1 0)) rfl rfl rfl ?_
        refine ghost_of [(0, 0), (1, 1), (2, 2), (3, 3)] rfl rfl rfl rfl rfl ⟨⟨rfl, rfl⟩, ⟨rfl, rfl⟩, ⟨rfl, rfl⟩, ⟨rfl, rfl⟩, ⟨rfl, rfl⟩, ⟨rfl, rfl⟩, ⟨rfl, rfl⟩, trivial⟩ ⟨rfl, ?_, rfl, rfl, trivial⟩
        exact congrArg (fun z => some (Blk.map 71 z)) (delS_eq (offAct a i).Key m1)
      · have e1 : offM2 d (offAct a i) m1 = m1 := by unfold offM2; rw [if_neg (by rw [show (d.E == 0 && kindA (offAct a i) == 2) = false from h3]; simp)]
        rw [e1]
        refine V_go (n := 1000) hT rfl ?_
        exact ghost_of [(0, 0), (1, 1), (2, 2), (3, 3)] rfl rfl rfl rfl rfl ⟨⟨rfl, rfl⟩, ⟨rfl, rfl⟩, ⟨rfl, rfl⟩, ⟨rfl, rfl⟩, ⟨rfl, rfl⟩, ⟨rfl, rfl⟩, ⟨rfl, rfl⟩, trivial⟩ ⟨rfl, rfl, rfl, rfl, trivial⟩
    generalize offM2 d (offAct a i) m1 = m2 at hsome hrs
    refine V_go (n := 1000) hT rfl ?_
    refine VL_Y (n := 1000) hT (yl_pure (bucket_Get d.B (offAct a i).Key) rfl rfl rfl) rfl rfl rfl ?_
    refine VL_Y (n := 1000) hT (yl_lookup (zb := bD (.str ⟨#[]⟩)) hT rfl rfl rfl rfl rfl rfl rfl (findS_eq _ m2 0) rfl (fun M => .str _) (lookS_eq _ m2)) rfl rfl rfl ?_
    refine VL_Yp (n := 1000) hT rfl (yl_lenMap hT rfl rfl rfl rfl rfl rfl rfl) rfl rfl ?_
    have hbad : offBad2 d.B (offAct a i).Key m2 = ((!(((getB d.B (offAct a i).Key).2 == 0) == (lookS (offAct a i).Key m2).2) || ((lookS (offAct a i).Key m2).2 && !((getB d.B (offAct a i).Key).1.Data == (lookS (offAct a i).Key m2).1))) || (((d.B.L.map eEntry).length : Int) != ((mapS m2).length : Int))) := by
      unfold offBad2; rw [List.length_map, List.length_map]
    refine V_cond rfl (fun h4 => ?_) fun h4 => ?_
    · exfalso
      rw [if_pos (hbad.trans h4)] at hsome
      simp at hsome
    rw [if_neg (by rw [hbad.trans h4]; simp)] at hrs
    refine V_go (n := 1000) hT rfl ?_
    refine ⟨(i + 1, d.B, m2), ⟨hlt', by simp only; omega, hrs⟩, by simp only; omega, ?_⟩
    exact ghost_of [(0, 0), (1, 1)] rfl rfl rfl rfl rfl ⟨⟨rfl, congrArg (fun z => some (([] : Path), dl (.int .i64 z))) hw⟩, ⟨rfl, rfl⟩, ⟨rfl, rfl⟩, ⟨rfl, rfl⟩, trivial⟩ ⟨rfl, rfl, trivial⟩
  · refine V_go (n := 1000) hT rfl ?_
    refine VL_Y (n := 1000) hT (yl_pure law_awake rfl rfl rfl) rfl rfl rfl ?_
    exact endsP rfl (WkA.refl _)
end Go.Cel

set_option linter.unusedVariables false
set_option linter.unusedSimpArgs false
namespace Go.Cel
open Go.ChangeShapes Go.WideShapes Go.RowKit
variable {H : Type} {enc : TypeId × Value → H} {P : Program} {w : World}

/-- All that there is stays. -/
abbrev allM (w : World) : Imm := fun b => w.heap[b]?
theorem allM_cell {a : Addr} {v : Value} (h : w.cell? a = some v) : (allM w).cell a = some v := by
  unfold Imm.cell
  unfold World.cell? at h
  cases hb : w.heap[a.block]? with
  | none => simp [hb] at h
  | some o =>
    rw [hb] at h
    simp only [allM, hb]
    cases o <;> first | exact h | (simp at h)

/-- What reads as of this type is one of these. -/
def Opens (enc : TypeId × Value → H) (P : Program) (w : World) (t : TypeId) {α : Type} (f : α → List D) (ok : α → Prop) : Prop :=
  ∀ (fuel : Nat) (cs : List Value) (d : DataW H) (ps : List MemPlace), DataW.trod enc P w 0 (fun _ => true) true fuel t cs = some (d, ps) → (∀ n ∈ d.weights P t, n ≤ reachBytes) → ∃ a, ok a ∧ All2 (DenD P (allM w)) (f a) cs

theorem opens_int {t : TypeId} {k : IntKind} (ht : P.underlying t = some (.int k)) : Opens enc P w t (fun n : Int => [.int k n]) (fun n => (Lit.int k n).wf = true) := by
  intro fuel cs d ps h _
  obtain ⟨n, rfl, _, hw⟩ := DataW.trod_int ht h
  exact ⟨n, hw, .int _ _, trivial⟩
theorem opens_str {t : TypeId} (ht : P.underlying t = some .string) : Opens enc P w t (fun s : ByteArray => [.str s]) (fun s => s.size ≤ reachBytes) := by
  intro fuel cs d ps h hwt
  obtain ⟨s, rfl, hx, _⟩ := DataW.trod_string ht h
  cases hx
  exact ⟨s, by have := hwt s.data.toList.length (by simp [DataW.weights]); simpa using this, .str _, trivial⟩
theorem opens_bool {t : TypeId} (ht : P.underlying t = some .bool) : Opens enc P w t (fun b : Bool => [.bool b]) (fun _ => True) := by
  intro fuel cs d ps h hwt
  obtain ⟨b, rfl, _⟩ := DataW.trod_bool ht h
  exact ⟨b, trivial, .bool _, trivial⟩

theorem weightsAll_mem {e : TypeId} : ∀ {l : List (DataW H)} {d : DataW H}, d ∈ l → ∀ n ∈ d.weights P e, n ∈ DataW.weightsAll P e l
  | x :: r, d, h, n, hn => by
    simp only [DataW.weightsAll, List.mem_append]
    rcases List.mem_cons.1 h with rfl | h
    · exact .inl hn
    · exact .inr (weightsAll_mem h n hn)
  | [], _, h, _, _ => by cases h

theorem choose_list {α β : Type} {R : Nat → α → Prop} : ∀ (n : Nat), (∀ i, i < n → ∃ a, R i a) → ∃ l : List α, l.length = n ∧ ∀ i a, l[i]? = some a → R i a
  | 0, _ => ⟨[], rfl, fun i a h => by simp at h⟩
  | n + 1, h => by
    obtain ⟨l, hl, hr⟩ := choose_list (β := β) n fun i hi => h i (by omega)
    obtain ⟨a, ha⟩ := h n (by omega)
    refine ⟨l ++ [a], by simp [hl], fun i b hb => ?_⟩
    rcases Nat.lt_or_ge i l.length with h1 | h1
    · rw [List.getElem?_append_left h1] at hb; exact hr i b hb
    · rw [List.getElem?_append_right h1] at hb
      cases hk : i - l.length with
      | zero => rw [hk] at hb; simp at hb; subst hb; rw [show i = n by omega]; exact ha
      | succ k => rw [hk] at hb; simp at hb

theorem opens_slice {t e : TypeId} {α : Type} {f : α → List D} {ok : α → Prop} (ht : P.underlying t = some (.slice e)) (hf : ∀ a, (f a).length = P.cellsOf e) (ho : Opens enc P w e f ok) :
    Opens enc P w t (fun l : List α => [.seq e (l.map f)]) (fun l => ∀ a ∈ l, ok a) := by
  intro fuel cs d ps h hwt
  rcases DataW.trod_slice ht h with ⟨rfl, _⟩ | ⟨a, len, cap, elems, rest, n, _, rfl, hx, hb, hl, hm, hlen, hel, hsp, hns⟩
  · refine ⟨[], ?_, ?_⟩
    · intro a h; cases h
    · exact ⟨DenD.seq0 _ _ _, trivial⟩
  · injection hx with hx hx2
    subst hx
    have hw0 : (elems.length + rest.length) * P.bytesOf e ≤ reachBytes := by
      have := hwt ((elems.length + rest.length) * P.bytesOf e) (by simp [DataW.weights, ht])
      exact this
    have hwe : ∀ d ∈ elems.map (·.1), ∀ n ∈ d.weights P e, n ≤ reachBytes := fun d hd n hn => hwt n (by
      simp only [DataW.weights, ht, List.mem_cons, List.mem_append]
      exact .inr (.inl (weightsAll_mem hd n hn)))
    obtain ⟨l, hll, hlr⟩ := choose_list (β := Unit) (R := fun i x => ok x ∧ ∃ cs, w.cells? 0 (a.add (i * P.cellsOf e)) (P.cellsOf e) = some cs ∧ All2 (DenD P (allM w)) (f x) cs) len fun i hi => by
      have h1 := hel i hi
      have h2 : i < elems.length := by omega
      rw [List.getElem?_eq_getElem h2, Option.bind_eq_some_iff] at h1
      obtain ⟨cs, h3, h4⟩ := h1
      obtain ⟨x, h5, h6⟩ := ho n cs elems[i].1 elems[i].2 h4 (hwe _ (List.mem_map.2 ⟨elems[i], List.getElem_mem h2, rfl⟩))
      exact ⟨x, h5, cs, h3, h6⟩
    refine ⟨l, fun x hx => ?_, ?_, trivial⟩
    · obtain ⟨i, hi⟩ := List.getElem?_of_mem hx
      exact (hlr i x hi).1
    · have hcell : ∀ (i : Nat) (cs : List D) (j : Nat) (x : D), (l.map f)[i]? = some cs → cs[j]? = some x → ∃ v, w.cell? (a.add (i * P.cellsOf e + j)) = some v ∧ DenD P (allM w) x v := by
        intro i cs j x hi hj
        rw [List.getElem?_map] at hi
        cases hc : l[i]? with
        | none => rw [hc] at hi; cases hi
        | some y =>
          rw [hc] at hi; simp at hi; subst hi
          obtain ⟨_, vs, h1, h2⟩ := hlr i y hc
          obtain ⟨_, h3, h4⟩ := World.cells?_some h1
          obtain ⟨v, h5, h6⟩ := All2.get h2 hj
          have hj' : j < P.cellsOf e := by have := (List.getElem?_eq_some_iff.1 hj).1; rw [hf] at this; exact this
          refine ⟨v, ?_, h6⟩
          rw [← Addr.add_add, h4 j hj', h5]
      have hlm : (l.map f).length = len := by simp [hll]
      have := DenD.seq (P := P) (M := allM w) e (l.map f) a cap (fun i j => (w.cell? (a.add (i * P.cellsOf e + j))).getD Go.undef) (by omega) hm (by
          rw [hlm, ← hlen]
          have : elems.length * P.bytesOf e ≤ (elems.length + rest.length) * P.bytesOf e := Nat.mul_le_mul_right _ (Nat.le_add_right _ _)
          have hr : reachBytes ≤ room := by decide
          omega)
        (fun i cs hi => by
          rw [List.getElem?_map] at hi
          cases hc : l[i]? with
          | none => rw [hc] at hi; cases hi
          | some y => rw [hc] at hi; simp at hi; subst hi; exact hf y)
        (fun i cs j x hi hj => by
          obtain ⟨v, h1, h2⟩ := hcell i cs j x hi hj
          rw [h1]; exact allM_cell h1)
        (fun i cs j x hi hj => by
          obtain ⟨v, h1, h2⟩ := hcell i cs j x hi hj
          rw [h1]; exact h2)
      rw [hlm] at this
      exact this

/-- fields, one behind the other. -/
def OpensF (enc : TypeId × Value → H) (P : Program) (w : World) (off : Nat) (fs : List Field) {α : Type} (f : α → List D) (ok : α → Prop) : Prop :=
  ∀ (n : Nat) (cs : List Value) (xs : List (DataW H × List MemPlace)), cs.length = off + (fs.map fun g => P.cellsOf g.type).sum → xs.length = fs.length →
    (∀ (i : Nat) (g : Field), fs[i]? = some g → DataW.trod enc P w 0 (fun _ => true) true n g.type ((cs.drop g.offset).take (P.cellsOf g.type)) = xs[i]?) →
    (∀ m ∈ DataW.weightsEach P (fs.map (·.type)) (xs.map (·.1)), m ≤ reachBytes) → ∃ a, ok a ∧ All2 (DenD P (allM w)) (f a) (cs.drop off)
theorem opensF_nil {off : Nat} : OpensF enc P w off [] (fun _ : Unit => []) (fun _ => True) := by
  intro n cs xs hl _ _ _
  refine ⟨(), trivial, ?_⟩
  rw [List.drop_of_length_le (by simp at hl; omega)]; trivial
theorem opensF_cons {off off' : Nat} {g : Field} {fs : List Field} {α β : Type} {f : α → List D} {ok : α → Prop} {f' : β → List D} {ok' : β → Prop} (hg : g.offset = off) (ho : off' = off + P.cellsOf g.type) (h1 : Opens enc P w g.type f ok) (h2 : OpensF enc P w off' fs f' ok') :
    OpensF enc P w off (g :: fs) (fun x : α × β => f x.1 ++ f' x.2) (fun x => ok x.1 ∧ ok' x.2) := by
  intro n cs xs hl hx ht hw
  cases xs with
  | nil => simp at hx
  | cons x xs =>
    have h3 := ht 0 g rfl
    simp only [List.map_cons, DataW.weightsEach, List.mem_append] at hw
    obtain ⟨a, ha, hA⟩ := h1 n _ x.1 x.2 h3 fun m hm => hw m (.inl hm)
    obtain ⟨b, hb, hB⟩ := h2 n cs xs (by simp at hl; omega) (by simpa using hx) (fun i g' hi => by simpa using ht (i + 1) g' (by simpa using hi)) fun m hm => hw m (.inr hm)
    refine ⟨(a, b), ⟨ha, hb⟩, ?_⟩
    subst ho
    rw [hg] at hA
    have : cs.drop off = (cs.drop off).take (P.cellsOf g.type) ++ cs.drop (off + P.cellsOf g.type) := by
      rw [← List.drop_drop, List.take_append_drop]
    rw [this]
    exact All2.append hA hB
theorem opens_struct {t : TypeId} {fs : Array Field} {α : Type} {f : α → List D} {ok : α → Prop} (ht : P.underlying t = some (.struct fs)) (hc : P.cellsOf t = (fs.toList.map fun g => P.cellsOf g.type).sum) (h : OpensF enc P w 0 fs.toList f ok) : Opens enc P w t f ok := by
  intro fuel cs d ps htr hw
  obtain ⟨xs, n, _, hx, hl, hlen, hf⟩ := DataW.trod_struct ht htr
  injection hx with hx hx2
  subst hx
  have := h n cs xs (by rw [hl, hc]; omega) (by simpa using hlen) (fun i g hi => hf i g (by simpa using hi)) (by simpa [DataW.weights, ht] using hw)
  simpa using this
theorem Opens.to {t : TypeId} {α β : Type} {f : α → List D} {ok : α → Prop} {f' : β → List D} {ok' : β → Prop} (h : Opens enc P w t f ok) (hm : ∀ a, ok a → ∃ b, ok' b ∧ f' b = f a) : Opens enc P w t f' ok' := by
  intro fuel cs d ps htr hw
  obtain ⟨a, h1, h2⟩ := h fuel cs d ps htr hw
  obtain ⟨b, h3, h4⟩ := hm a h1
  exact ⟨b, h3, h4 ▸ h2⟩
end Go.Cel

set_option linter.unusedVariables false
set_option maxRecDepth 100000
set_option maxHeartbeats 4000000
namespace Go.Cel
open Go.Proofs Go.IntWalk
variable {H : Type} {enc : TypeId × Value → H} {w : World}

theorem u3 : Tryz.prog.underlying 3 = some (.int .i64) := by kernel_rfl
theorem u5 : Tryz.prog.underlying 5 = some (.int .u8) := by kernel_rfl
theorem u9 : Tryz.prog.underlying 9 = some .string := by kernel_rfl
theorem u24 : Tryz.prog.underlying 24 = some (.int .u64) := by kernel_rfl
theorem u36 : Tryz.prog.underlying 36 = some (.int .u32) := by kernel_rfl
theorem u35 : Tryz.prog.underlying 35 = some (.slice 43) := by kernel_rfl
theorem u66 : Tryz.prog.underlying 66 = some (.slice 59) := by kernel_rfl
def F43 : Array Field := #[⟨"N", 3, 0, false, "", "", 0⟩, ⟨"Tag", 36, 1, false, "", "", 8⟩]
theorem u43 : Tryz.prog.underlying 43 = some (.struct F43) := by kernel_rfl
def F59 : Array Field := #[⟨"Kind", 5, 0, false, "", "", 0⟩, ⟨"Key", 9, 1, false, "", "", 8⟩, ⟨"Data", 9, 2, false, "", "", 24⟩, ⟨"ID", 24, 3, false, "", "", 40⟩, ⟨"N", 3, 4, false, "", "", 48⟩, ⟨"At", 3, 5, false, "", "", 56⟩, ⟨"Pieces", 35, 6, false, "", "", 64⟩]
theorem u59 : Tryz.prog.underlying 59 = some (.struct F59) := by kernel_rfl
theorem z3 : Tryz.prog.cellsOf 3 = 1 := by kernel_rfl
theorem z5 : Tryz.prog.cellsOf 5 = 1 := by kernel_rfl
theorem z9 : Tryz.prog.cellsOf 9 = 1 := by kernel_rfl
theorem z24 : Tryz.prog.cellsOf 24 = 1 := by kernel_rfl
theorem z36 : Tryz.prog.cellsOf 36 = 1 := by kernel_rfl
theorem z35 : Tryz.prog.cellsOf 35 = 1 := by kernel_rfl
theorem z43 : Tryz.prog.cellsOf 43 = 2 := by kernel_rfl
theorem z59 : Tryz.prog.cellsOf 59 = 7 := by kernel_rfl

def okPiece (p : Piece) : Prop := (Lit.int .i64 p.N).wf = true ∧ (Lit.int .u32 p.Tag).wf = true
theorem opens_Piece : Opens enc Tryz.prog w 43 ePiece okPiece := by
  refine (opens_struct (fs := F43) u43 (by kernel_rfl) (opensF_cons (off' := 1) rfl (by kernel_rfl) (opens_int u3) (opensF_cons (off' := 2) rfl (by kernel_rfl) (opens_int u36) opensF_nil))).to fun a h => ?_
  exact ⟨⟨a.1, a.2.1⟩, ⟨h.1, h.2.1⟩, rfl⟩
def okAct (a : ActA) : Prop := (Lit.int .u8 a.Kind).wf = true ∧ a.Key.size ≤ reachBytes ∧ a.Data.size ≤ reachBytes ∧ (Lit.int .u64 a.ID).wf = true ∧ (Lit.int .i64 a.N).wf = true ∧ (Lit.int .i64 a.At).wf = true ∧ ∀ p ∈ a.Pieces, okPiece p
theorem opens_Act : Opens enc Tryz.prog w 59 eAct okAct := by
  refine (opens_struct (fs := F59) u59 (by kernel_rfl) (opensF_cons (off' := 1) rfl (by kernel_rfl) (opens_int u5) (opensF_cons (off' := 2) rfl (by kernel_rfl) (opens_str u9) (opensF_cons (off' := 3) rfl (by kernel_rfl) (opens_str u9)
    (opensF_cons (off' := 4) rfl (by kernel_rfl) (opens_int u24) (opensF_cons (off' := 5) rfl (by kernel_rfl) (opens_int u3) (opensF_cons (off' := 6) rfl (by kernel_rfl) (opens_int u3) (opensF_cons (off' := 7) rfl (by kernel_rfl) (opens_slice u35 (fun a => by rw [z43]; rfl) opens_Piece) opensF_nil)))))))).to fun a h => ?_
  obtain ⟨a1, a2, a3, a4, a5, a6, a7, _⟩ := a
  exact ⟨⟨a1, a2, a3, a4, a5, a6, a7⟩, ⟨h.1, h.2.1, h.2.2.1, h.2.2.2.1, h.2.2.2.2.1, h.2.2.2.2.2.1, h.2.2.2.2.2.2.1⟩, rfl⟩
theorem opens_Acts : Opens enc Tryz.prog w 66 (fun l : List ActA => [dActs l]) (fun l => ∀ a ∈ l, okAct a) := opens_slice u66 (fun a => by rw [z59]; rfl) opens_Act

/-- What a contract without blocks says of a call of the statement. -/
theorem entry_calls {P : Program} {f : FuncId} {args : List B} {b : Bool} (h : Pure P f args (dl (.bool b))) {W : World} {vs : List Value} (ha : All2 (DenB P noRho (allM W)) args vs) :
    Calls P f vs.toArray W fun e W' => e = .returned (.bool b) ∧ Go.RowKit.Below W.heap.size W W' := by
  have hm : Mem P ⟨W, handed noRho [], allM W, noRho, 0⟩ noRho (allM W) [] 0 W :=
    ⟨rfl, rfl, rfl, Nat.le_refl _, fun _ _ _ => rfl, fun _ _ h => h, Imm.le.refl _, fun _ _ h => .inl h, Rho.le.refl _, Nat.le_refl _, fun _ _ => rfl, fun _ _ => rfl, fun _ _ h => (List.not_mem_nil h).elim, fun _ _ _ _ h => (List.not_mem_nil h).elim, fun _ _ _ _ _ _ _ h => (List.not_mem_nil h).elim⟩
  refine (h.2.2 W noRho (allM W) vs hm ha).mono fun e W' ⟨ρ', M', r, v, o', nx', h1, h2, h3, h4⟩ => ?_
  have h5 := WkA.den h3 h2
  have h6 : v = .bool b := by
    have := den_inv h5
    cases this; rfl
  subst h6
  refine ⟨h1, h4.os, h4.tape, h4.output, h4.size, fun k hk => h4.old k hk ?_⟩
  rintro ⟨id, b', v', hm', _⟩
  cases hm'
end Go.Cel
