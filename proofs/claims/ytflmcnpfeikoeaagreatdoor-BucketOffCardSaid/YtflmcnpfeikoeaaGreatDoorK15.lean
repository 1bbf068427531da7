/- CxQ: bucket.New, laid, Put, Delete, Drop, Get, Find. -/
import Derived.Test.YtflmcnpfeikoeaaGreatDoorK14
import Derived.Test.YtflmcnpfeikoeaaGreatDoorK10
set_option linter.unusedVariables false
set_option maxRecDepth 100000
set_option maxHeartbeats 4000000
namespace Go.Cel
open Go.Proofs Go.IntWalk

theorem bucket_laid1 {f : FuncId} {first caps : List D} {g : List Version → Int → List Version × Int} (hq : ∀ l id, Pure Tryz.prog f (first.map bD ++ ([bD (dVersions l), bD (.int .u64 id)] ++ caps.map bD)) (rLE (g l id))) (id : Int) (l : List Version) :
    Pure Tryz.prog 106 [bD (dVersions l), bD (.eptr [.fn f first caps]), bD (.eptr [.int .u64 id])] (rLE (g l id)) := by
  refine pure_intro hT Tryz.func106 rfl (by kernel_rfl) rfl rfl fun X hX => ?_
  refine V_go (n := 1000) hT rfl ?_
  refine VL_Y (n := 1000) hT (yl_pure (hq l id) rfl rfl (noOwn_fn rfl)) rfl rfl rfl ?_
  exact endsP rfl (WkA.refl _)

theorem bucket_Put1 (b : Bucket) (data : ByteArray) (at_ : Int) (l : List Version) (id : Int) : Pure Tryz.prog 51 [bD (dVersions l), bD (.int .u64 id), bD (.eptr (eBucket b)), bD (.eptr [.str data]), bD (.eptr [.int .i64 at_])] (rLE (putE l b.State ⟨id, data, false, at_⟩)) := by
  refine pure_intro hT Tryz.func51 rfl (by kernel_rfl) rfl rfl fun X hX => ?_
  refine V_go (n := 1000) hT rfl ?_
  refine VL_Y (n := 1000) hT (yl_pure (chain_Put l b.State ⟨id, data, false, at_⟩) rfl rfl rfl) rfl rfl rfl ?_
  exact endsP rfl (WkA.refl _)
theorem bucket_Delete1 (b : Bucket) (at_ : Int) (l : List Version) (id : Int) : Pure Tryz.prog 82 [bD (dVersions l), bD (.int .u64 id), bD (.eptr (eBucket b)), bD (.eptr [.int .i64 at_])] (rLE (deleteE l b.State id at_)) := by
  refine pure_intro hT Tryz.func82 rfl (by kernel_rfl) rfl rfl fun X hX => ?_
  refine V_go (n := 1000) hT rfl ?_
  refine VL_Y (n := 1000) hT (yl_pure (chain_Delete l b.State id at_) rfl rfl rfl) rfl rfl rfl ?_
  exact endsP rfl (WkA.refl _)
theorem bucket_Drop1 (id : Int) (l : List Version) : Pure Tryz.prog 85 [bD (dVersions l), bD (.eptr [.int .u64 id])] (rLE (dropE l id)) := by
  refine pure_intro hT Tryz.func85 rfl (by kernel_rfl) rfl rfl fun X hX => ?_
  refine V_go (n := 1000) hT rfl ?_
  refine VL_Y (n := 1000) hT (yl_pure (chain_Drop l id) rfl rfl rfl) rfl rfl rfl ?_
  exact endsP rfl (WkA.refl _)

def nextN (b : Bucket) : Int := IntKind.u64.wrap (b.Last + 1)
def lastB (b : Bucket) : Bucket := if b.State == 1 then { b with Last := nextN b } else b
def lastE (b : Bucket) (e : Int) : Int := if b.State == 1 then noE e (decide (281474976710655 ≤ b.Last)) 6 else e
def lastN (b : Bucket) : Int := if b.State == 1 then nextN b else 0
/-- a bucket, a number and an error. -/
abbrev rBNE (x : Bucket × Int × Int) : A := .tup [bBucket x.1, bD (.int .u64 x.2.1), bD (.int .i64 x.2.2)]
def laidV (g : List Version → Int → List Version × Int) (b : Bucket) (key : ByteArray) : Bucket × Int := versB (fun l => g l (lastN b)) (lastB b) (lastE b (openE b key)) key
def laidB (g : List Version → Int → List Version × Int) (b : Bucket) (key : ByteArray) : Bucket × Int × Int :=
  if (closeB (laidV g b key).1 (laidV g b key).2 b).2 != 0 then (b, 0, (closeB (laidV g b key).1 (laidV g b key).2 b).2)
  else ((closeB (laidV g b key).1 (laidV g b key).2 b).1, lastN b, 0)
abbrev zBucket : List L := [.d (.str ⟨#[]⟩), .d (.int .i64 0), .d .nilsl, .d .nilsl, .d (.int .u64 0)]
theorem bucket_laid {f : FuncId} {first caps : List D} {g : List Version → Int → List Version × Int} (hq : ∀ l id, Pure Tryz.prog f (first.map bD ++ ([bD (dVersions l), bD (.int .u64 id)] ++ caps.map bD)) (rLE (g l id))) (b : Bucket) (key : ByteArray) :
    Pure Tryz.prog 50 [bBucket b, bD (.str key), bD (.fn f first caps)] (rBNE (laidB g b key)) := by
  refine pure_intro hT Tryz.func50 rfl (by kernel_rfl) rfl rfl fun X hX => ?_
  refine V_go (n := 1000) hT rfl ?_
  refine VL_T (n := 1000) hT 4 rfl (tl_call [] [(0, 3)] (bucket_open b key) rfl rfl rfl rfl trivial rfl (full_of rfl) rfl rfl rfl rfl) rfl rfl rfl ?_
  refine V_meet hX ⟨[(10, [], .b (.l (.ptr 4 0))), (9, [], .b (.l (.ptr 3 0))), (6, [], .b (.l (.ptr 2 0))), (5, [], .b (.l (.ptr 1 0))), (3, [], .b (.l (.ptr 0 0))), (1, [], dl (.str key))],
    [(4, .cells [.d (.int .u64 (lastN b))] 24), (3, .cells (cWork (lastB b) (lastE b (openE b key))) 87), (2, .cells zBucket 26), (1, .cells [.d (.fn f first caps)] 113), (0, .cells (cBucket b) 26)], 5, [], [], 37⟩ ?_ ?_
  · refine V_cond rfl (fun h1 => ?_) fun h1 => ?_
    · have e1 : lastB b = { b with Last := nextN b } := by unfold lastB; rw [if_pos h1]
      have e2 : lastE b (openE b key) = noE (openE b key) (decide (281474976710655 ≤ b.Last)) 6 := by unfold lastE; rw [if_pos h1]
      have e3 : lastN b = nextN b := by unfold lastN; rw [if_pos h1]
      rw [e1, e2, e3]
      refine V_go (n := 1000) hT rfl ?_
      refine VL_T (n := 1000) hT 5 rfl (tl_call [(0, 3)] [] (work_next b (openE b key)) rfl rfl rfl rfl ⟨rfl, trivial⟩ rfl (full_of rfl) rfl rfl rfl rfl) rfl rfl rfl ?_
      exact ghost_of [(0, 0), (1, 1), (2, 2), (3, 3), (4, 4)] rfl rfl rfl rfl rfl ⟨⟨rfl, rfl⟩, ⟨rfl, rfl⟩, ⟨rfl, rfl⟩, ⟨rfl, rfl⟩, ⟨rfl, rfl⟩, ⟨rfl, rfl⟩, trivial⟩ ⟨rfl, rfl, rfl, rfl, rfl, trivial⟩
    · have e1 : lastB b = b := by unfold lastB; rw [if_neg (by rw [h1]; simp)]
      have e2 : lastE b (openE b key) = openE b key := by unfold lastE; rw [if_neg (by rw [h1]; simp)]
      have e3 : lastN b = 0 := by unfold lastN; rw [if_neg (by rw [h1]; simp)]
      rw [e1, e2, e3]
      refine V_go (n := 1000) hT rfl ?_
      exact ghost_of [(0, 0), (1, 1), (2, 2), (3, 3), (4, 4)] rfl rfl rfl rfl rfl ⟨⟨rfl, rfl⟩, ⟨rfl, rfl⟩, ⟨rfl, rfl⟩, ⟨rfl, rfl⟩, ⟨rfl, rfl⟩, ⟨rfl, rfl⟩, trivial⟩ ⟨rfl, rfl, rfl, rfl, rfl, trivial⟩
  refine V_go (n := 1000) hT rfl ?_
  refine VL_ghost hX (ghost_freeze 1 rfl) ?_
  refine VL_ghost hX (ghost_freeze 4 rfl) ?_
  refine VL_Y (n := 1000) hT (yl_makeFunc rfl rfl rfl rfl) rfl rfl rfl ?_
  refine VL_T (n := 1000) hT 5 rfl (tl_call [(0, 3)] [] (work_versions (f := 106) (first := []) (caps := [.eptr [.fn f first caps], .eptr [.int .u64 (lastN b)]]) (g := fun l => g l (lastN b)) (fun l => bucket_laid1 hq (lastN b) l) (lastB b) (lastE b (openE b key)) key) rfl rfl rfl rfl ⟨rfl, trivial⟩ rfl (full_of rfl) rfl rfl rfl rfl) rfl rfl rfl ?_
  refine VL_T (n := 1000) hT 5 rfl (tl_call [(0, 3)] [] (work_close (laidV g b key).1 (laidV g b key).2 b) rfl rfl rfl rfl ⟨rfl, trivial⟩ rfl (full_of rfl) rfl rfl rfl rfl) rfl rfl rfl ?_
  have hl : laidB g b key = if (closeB (laidV g b key).1 (laidV g b key).2 b).2 != 0 then (b, 0, (closeB (laidV g b key).1 (laidV g b key).2 b).2) else ((closeB (laidV g b key).1 (laidV g b key).2 b).1, lastN b, 0) := rfl
  rw [hl]
  generalize closeB (laidV g b key).1 (laidV g b key).2 b = Z
  obtain ⟨out, e⟩ := Z
  refine V_cond rfl (fun h1 => ?_) fun h1 => ?_
  · rw [if_pos h1]
    refine V_go (n := 1000) hT rfl ?_
    exact endsP rfl (WkA.refl _)
  · rw [if_neg (by simp only; rw [h1]; simp)]
    refine V_go (n := 1000) hT rfl ?_
    refine VD_start ?_
    refine VD_go hT rfl rfl ?_
    refine VD_end (n := 1000) hT rfl (by kernel_rfl) (by kernel_rfl) rfl rfl rfl ?_
    exact endsP rfl (WkA.refl _)

def putB (b : Bucket) (key data : ByteArray) (at_ : Int) : Bucket × Int × Int := laidB (fun l id => putE l b.State ⟨id, data, false, at_⟩) b key
theorem bucket_Put (b : Bucket) (key data : ByteArray) (at_ : Int) : Pure Tryz.prog 19 [bBucket b, bD (.str key), bD (.str data), bD (.int .i64 at_)] (rBNE (putB b key data at_)) := by
  refine pure_intro hT Tryz.func19 rfl (by kernel_rfl) rfl rfl fun X hX => ?_
  refine V_go (n := 1000) hT rfl ?_
  refine VL_ghost hX (ghost_freeze 0 rfl) ?_
  refine VL_ghost hX (ghost_freeze 1 rfl) ?_
  refine VL_ghost hX (ghost_freeze 2 rfl) ?_
  refine VL_Y (n := 1000) hT (yl_makeFunc rfl rfl rfl rfl) rfl rfl rfl ?_
  refine VL_Y (n := 1000) hT (yl_pure (bucket_laid (f := 51) (first := []) (caps := [.eptr (eBucket b), .eptr [.str data], .eptr [.int .i64 at_]]) (fun l id => bucket_Put1 b data at_ l id) b key) rfl rfl rfl) rfl rfl rfl ?_
  exact endsP rfl (WkA.refl _)
def deleteB (b : Bucket) (key : ByteArray) (at_ : Int) : Bucket × Int × Int := laidB (fun l id => deleteE l b.State id at_) b key
theorem bucket_Delete (b : Bucket) (key : ByteArray) (at_ : Int) : Pure Tryz.prog 39 [bBucket b, bD (.str key), bD (.int .i64 at_)] (rBNE (deleteB b key at_)) := by
  refine pure_intro hT Tryz.func39 rfl (by kernel_rfl) rfl rfl fun X hX => ?_
  refine V_go (n := 1000) hT rfl ?_
  refine VL_ghost hX (ghost_freeze 0 rfl) ?_
  refine VL_ghost hX (ghost_freeze 1 rfl) ?_
  refine VL_Y (n := 1000) hT (yl_makeFunc rfl rfl rfl rfl) rfl rfl rfl ?_
  refine VL_Y (n := 1000) hT (yl_pure (bucket_laid (f := 82) (first := []) (caps := [.eptr (eBucket b), .eptr [.int .i64 at_]]) (fun l id => bucket_Delete1 b at_ l id) b key) rfl rfl rfl) rfl rfl rfl ?_
  exact endsP rfl (WkA.refl _)

def dropVB (b : Bucket) (key : ByteArray) (id : Int) : Bucket × Int := versB (fun l => dropE l id) b (openE b key) key
def dropB (b : Bucket) (key : ByteArray) (id : Int) : Bucket × Int := closeB (dropVB b key id).1 (dropVB b key id).2 b
theorem bucket_Drop (b : Bucket) (key : ByteArray) (id : Int) : Pure Tryz.prog 40 [bBucket b, bD (.str key), bD (.int .u64 id)] (rBE (dropB b key id)) := by
  refine pure_intro hT Tryz.func40 rfl (by kernel_rfl) rfl rfl fun X hX => ?_
  refine V_go (n := 1000) hT rfl ?_
  refine VL_T (n := 1000) hT 4 rfl (tl_call [] [(0, 3)] (bucket_open b key) rfl rfl rfl rfl trivial rfl (full_of rfl) rfl rfl rfl rfl) rfl rfl rfl ?_
  refine VL_ghost hX (ghost_freeze 1 rfl) ?_
  refine VL_Y (n := 1000) hT (yl_makeFunc rfl rfl rfl rfl) rfl rfl rfl ?_
  refine VL_T (n := 1000) hT 4 rfl (tl_call [(0, 3)] [] (work_versions (f := 85) (first := []) (caps := [.eptr [.int .u64 id]]) (g := fun l => dropE l id) (fun l => bucket_Drop1 id l) b (openE b key) key) rfl rfl rfl rfl ⟨rfl, trivial⟩ rfl (full_of rfl) rfl rfl rfl rfl) rfl rfl rfl ?_
  refine VL_T (n := 1000) hT 4 rfl (tl_call [(0, 3)] [] (work_close (dropVB b key id).1 (dropVB b key id).2 b) rfl rfl rfl rfl ⟨rfl, trivial⟩ rfl (full_of rfl) rfl rfl rfl rfl) rfl rfl rfl ?_
  exact endsP rfl (WkA.refl _)

def getB (b : Bucket) (key : ByteArray) : Version × Int := if openE b key != 0 then (noV, openE b key) else atV (getV b.L key) 0
theorem bucket_Get (b : Bucket) (key : ByteArray) : Pure Tryz.prog 18 [bBucket b, bD (.str key)] (rVE (getB b key)) := by
  refine pure_intro hT Tryz.func18 rfl (by kernel_rfl) rfl rfl fun X hX => ?_
  refine V_go (n := 1000) hT rfl ?_
  refine VL_T (n := 1000) hT 3 rfl (tl_call [] [(0, 2)] (bucket_open b key) rfl rfl rfl rfl trivial rfl (full_of rfl) rfl rfl rfl rfl) rfl rfl rfl ?_
  refine V_cond rfl (fun h1 => ?_) fun h1 => ?_
  · have : getB b key = (noV, openE b key) := by unfold getB; rw [if_pos h1]
    rw [this]
    refine V_go (n := 1000) hT rfl ?_
    refine VD_start ?_
    refine VD_go hT rfl rfl ?_
    refine VD_end (n := 1000) hT rfl (by kernel_rfl) (by kernel_rfl) rfl rfl rfl ?_
    exact endsP rfl (WkA.refl _)
  · have : getB b key = atV (getV b.L key) 0 := by unfold getB; rw [if_neg (by rw [h1]; simp)]
    rw [this]
    refine V_go (n := 1000) hT rfl ?_
    refine VL_Y (n := 1000) hT (yl_pure (index_Get b.L key) rfl rfl rfl) rfl rfl rfl ?_
    refine VL_Y (n := 1000) hT (yl_pure (chain_Get (getV b.L key)) rfl rfl rfl) rfl rfl rfl ?_
    exact endsP rfl (WkA.refl _)
def findB (b : Bucket) (key : ByteArray) (id : Int) : Version × Int := if openE b key != 0 then (noV, openE b key) else atV (getV b.L key) (findV (getV b.L key) id)
theorem bucket_Find (b : Bucket) (key : ByteArray) (id : Int) : Pure Tryz.prog 29 [bBucket b, bD (.str key), bD (.int .u64 id)] (rVE (findB b key id)) := by
  refine pure_intro hT Tryz.func29 rfl (by kernel_rfl) rfl rfl fun X hX => ?_
  refine V_go (n := 1000) hT rfl ?_
  refine VL_T (n := 1000) hT 3 rfl (tl_call [] [(0, 2)] (bucket_open b key) rfl rfl rfl rfl trivial rfl (full_of rfl) rfl rfl rfl rfl) rfl rfl rfl ?_
  refine V_cond rfl (fun h1 => ?_) fun h1 => ?_
  · have : findB b key id = (noV, openE b key) := by unfold findB; rw [if_pos h1]
    rw [this]
    refine V_go (n := 1000) hT rfl ?_
    refine VD_start ?_
    refine VD_go hT rfl rfl ?_
    refine VD_end (n := 1000) hT rfl (by kernel_rfl) (by kernel_rfl) rfl rfl rfl ?_
    exact endsP rfl (WkA.refl _)
  · have : findB b key id = atV (getV b.L key) (findV (getV b.L key) id) := by unfold findB; rw [if_neg (by rw [h1]; simp)]
    rw [this]
    refine V_go (n := 1000) hT rfl ?_
    refine VL_Y (n := 1000) hT (yl_pure (index_Get b.L key) rfl rfl rfl) rfl rfl rfl ?_
    refine VL_Y (n := 1000) hT (yl_pure (chain_Find (getV b.L key) id) rfl rfl rfl) rfl rfl rfl ?_
    exact endsP rfl (WkA.refl _)

def newB (s : ByteArray) : Bucket × Int := if !bucketOK s then (⟨empty, 0, [], [], 0⟩, 1) else (⟨s, 0, [], [], 0⟩, 0)
theorem bucket_New (s : ByteArray) : Pure Tryz.prog 26 [bD (.str s)] (rBE (newB s)) := by
  refine pure_intro hT Tryz.func26 rfl (by kernel_rfl) rfl rfl fun X hX => ?_
  have hw : ∀ (n : ByteArray) (e : Int), WkA (.tup [.agg [.d (.str n), .d (.int .i64 0), .d .nilsl, .d .nilsl, .d (.int .u64 0)], bD (.int .i64 e)]) (rBE (⟨n, 0, [], [], 0⟩, e)) := fun n e =>
    .tup ⟨.agg ⟨.refl _, .refl _, .d (.nil 56), .d (.nil 101), .refl _, trivial⟩, .refl _, trivial⟩
  refine V_go (n := 1000) hT rfl ?_
  refine VL_Y (n := 1000) hT (yl_pure (name_Bucket s) rfl rfl rfl) rfl rfl rfl ?_
  refine V_cond rfl (fun h1 => ?_) fun h1 => ?_
  · have : newB s = (⟨empty, 0, [], [], 0⟩, 1) := by unfold newB; rw [if_pos h1]
    rw [this]
    refine V_go (n := 1000) hT rfl ?_
    exact endsP rfl (hw _ _)
  · have : newB s = (⟨s, 0, [], [], 0⟩, 0) := by unfold newB; rw [if_neg (by rw [h1]; simp)]
    rw [this]
    refine V_go (n := 1000) hT rfl ?_
    exact endsP rfl (hw _ _)
end Go.Cel

set_option linter.unusedVariables false
set_option maxRecDepth 100000
set_option maxHeartbeats 4000000
namespace Go.Cel
open Go.Proofs Go.IntWalk

theorem Src.len {P : Program} {T : Nat → Ty} {r : St} {e : Nat} {x : Operand} {len len' : Nat} {fs : List (List D)} (h : Src P T r e x len fs) (he : len = len') : Src P T r e x len' fs := he ▸ h

theorem Delete_Upload (l : List Upload) (i : Nat) (j : Int) (hj : j = ((i + 1 : Nat) : Int)) (hi : i < l.length) (hlen : l.length ≤ 100000) :
    Con Tryz.prog 102 [(0, .row 101 (l.map eUpload))] 1 [.l (.orow 0), bD (.int .i64 i), bD (.int .i64 j)] fun r o nx => r = .b (.l (.orow 1)) ∧ o = [(1, .row 101 ((l.eraseIdx i).map eUpload))] ∧ nx = 2 := by
  subst hj
  refine con_intro hT Tryz.func102 rfl (by kernel_rfl) rfl fun X hX => ?_
  have hml : (l.map eUpload).length = l.length := List.length_map ..
  refine V_spread hT 0 3 rfl rfl rfl (fun c => rfl) fun c hc hcm => ?_
  rw [hml] at hc
  have hel : (List.map some (l.map eUpload) ++ List.replicate (c - (l.map eUpload).length) none).length = c := by
    rw [List.length_append, List.length_map, List.length_replicate, hml]; omega
  have hti : (List.map some (l.map eUpload) ++ List.replicate (c - (l.map eUpload).length) none).take i = ((l.take i).map eUpload).map some := by
    rw [List.take_append_of_le_length (by rw [List.length_map]; omega), ← List.map_take, ← List.map_take]
  have hdi : (List.drop (i + 1) (List.map some (l.map eUpload) ++ List.replicate (c - (l.map eUpload).length) none)).take ((l.drop (i + 1)).map eUpload).length = ((l.drop (i + 1)).map eUpload).map some := by
    rw [List.drop_append_of_le_length (by rw [List.length_map]; omega), List.take_append_of_le_length (by simp), ← List.map_drop, ← List.map_drop]
    rw [List.take_of_length_le (by simp)]
  generalize hE : List.map some (l.map eUpload) ++ List.replicate (c - (l.map eUpload).length) none = E at hel hti hdi
  clear hE
  refine V_go (n := 1000) hT rfl ?_
  refine VL_Y (n := 1000) hT (yl_lenOsl hT rfl rfl rfl rfl rfl rfl) rfl rfl rfl ?_
  refine VL_U (n := 1000) hT (ylu_slice3 hT rfl rfl rfl rfl rfl rfl rfl rfl (by omega) (by omega) (by rw [hml]; omega) (by rw [hml, hel]; omega)) rfl rfl rfl rfl rfl ?_
  refine V_condF rfl ?_ ?_
  · show ((i : Int) == ((i + 1 : Nat) : Int)) = false
    simp; omega
  refine V_go (n := 1000) hT rfl ?_
  refine VL_Y (n := 1000) hT (yl_lenOsl hT rfl rfl rfl rfl rfl rfl) rfl rfl rfl ?_
  refine VD_start ?_
  refine VD_go hT rfl rfl ?_
  refine VD_Y hT rfl rfl rfl rfl (yl_sliceOsl (l := none) (h := some (i : Int)) hT 0 i 0 i rfl rfl rfl rfl rfl rfl rfl rfl rfl rfl rfl (by omega) (by rw [hel]; omega) rfl (by omega)) rfl rfl rfl ?_
  refine VD_Y hT rfl rfl rfl rfl (yl_sliceOsl (l := some ((i + 1 : Nat) : Int)) (h := none) hT (i + 1) l.length (i + 1) l.length rfl rfl rfl rfl rfl rfl rfl rfl rfl rfl (by rw [hml]; simp) (by omega) (by rw [hel]; omega) (by omega) (by omega)) rfl rfl rfl ?_
  have hfl : ((l.drop (i + 1)).map eUpload).length = l.length - (i + 1) := by simp
  refine VD_T (os := [22, 25]) (gs := []) (ids := [0]) (σ := ⟨[22, 25], [26], [0], [0], []⟩) hT rfl rfl (tl_appendIn (fs := (l.drop (i + 1)).map eUpload) hT rfl rfl rfl rfl rfl rfl rfl rfl rfl rfl ((src_osl hT rfl rfl rfl rfl hdi).len hfl.symm) (by rw [hfl, hel]; omega)) rfl rfl 1 rfl rfl ?_
  refine VD_end (n := 1000) hT rfl (by kernel_rfl) (by kernel_rfl) rfl rfl rfl ?_
  have hk : i + ((l.drop (i + 1)).map eUpload).length = l.length - 1 := by rw [hfl]; omega
  have hE2 : (splice i (((l.drop (i + 1)).map eUpload).map some) E).length = c := by rw [splice_length (by rw [List.length_map, hfl, hel]; omega)]; exact hel
  refine VL_Y (n := 1000) hT (yl_lenOsl hT rfl rfl rfl rfl rfl rfl) rfl rfl rfl ?_
  refine VL_Y (n := 1000) hT (yl_sliceOsl hT (l.length - 1) l.length (l.length - 1) l.length rfl rfl rfl rfl rfl rfl rfl rfl rfl ?_ ?_ (by omega) (by rw [hE2]; omega) (by omega) (by omega)) rfl rfl rfl ?_
  · show ((i + ((l.drop (i + 1)).map eUpload).length - 0 : Nat) : Int) = _
    rw [hk]; rfl
  · show (((l.map eUpload).length - 0 : Nat) : Int) = _
    rw [hml]; rfl
  refine VL_T (n := 1000) hT 1 rfl (tl_clearOsl hT rfl rfl rfl rfl rfl rfl rfl rfl rfl rfl) rfl rfl rfl ?_
  have hne : (l.eraseIdx i).length = l.length - 1 := by rw [List.length_eraseIdx]; simp [hi]
  refine ends_ghost (ghost_close (fs := (l.eraseIdx i).map eUpload) hT 6 0 rfl rfl rfl ?_ ?_ ?_ rfl) ⟨.inr rfl, _, _, [(1, .row 101 ((l.eraseIdx i).map eUpload))], Ghost.refl _ _, rfl, fun x hx => hx, rfl, rfl, rfl⟩
  · rw [hk]
    have h1 : (splice i (((l.drop (i + 1)).map eUpload).map some) E).take (l.length - 1) = ((l.eraseIdx i).map eUpload).map some := by
      unfold splice
      rw [hti, ← List.append_assoc, List.take_append_of_le_length (by simp; omega), List.take_of_length_le (by simp; omega), ← List.map_append, ← List.map_append, List.eraseIdx_eq_take_drop_succ]
    generalize splice i (((l.drop (i + 1)).map eUpload).map some) E = E2 at h1 hE2
    unfold splice
    rw [List.take_append_of_le_length (by simp; omega), List.take_take, Nat.min_self]
    exact h1
  · rw [splice_length (by rw [List.length_map, List.length_replicate, hE2]; omega), hE2, hk]; omega
  · exact Nat.le_trans (Nat.mul_le_mul_right _ (show _ ≤ 100000 by rw [List.length_map, hne]; omega)) (by decide)

/-- uploads and an error. -/
abbrev rUE (x : List Upload × Int) : A := .tup [bD (dUploads x.1), bD (.int .i64 x.2)]
theorem rUE_nil (e : Int) : WkA (.tup [bD .nilsl, bD (.int .i64 e)]) (rUE ([], e)) := .tup ⟨.l (.d (.nil 101)), .refl _, trivial⟩
theorem uploadsOK_len {l : List Upload} (h : (errOf (uploadsOK l) != 0) = false) : l.length ≤ 10 := by
  have h1 : uploadsOK l = true := by
    unfold errOf at h
    cases hc : uploadsOK l with
    | true => rfl
    | false => rw [hc] at h; simp at h
  unfold uploadsOK at h1
  simp at h1; omega

theorem parts_place1 (id : Int) (u : Upload) : Pure Tryz.prog 134 [bUpload u, bD (.eptr [.int .u64 id])] (dl (.bool (u.ID == id))) := by
  refine pure_intro hT Tryz.func134 rfl (by kernel_rfl) rfl rfl fun X _ => ?_
  refine V_go (n := 1000) hT rfl ?_
  exact endsP rfl (WkA.refl _)
def findU (l : List Upload) (id : Int) : Int := idxOf (fun u : Upload => u.ID == id) l
def placeU (l : List Upload) (id : Int) : Int × Int :=
  if errOf (uploadsOK l) != 0 then (0, 1) else if decide (findU l id < 0) then (0, 4) else (findU l id, 0)
abbrev rII (x : Int × Int) : A := .tup [bD (.int .i64 x.1), bD (.int .i64 x.2)]
theorem parts_place (l : List Upload) (id : Int) : Pure Tryz.prog 87 [bD (dUploads l), bD (.int .u64 id)] (rII (placeU l id)) := by
  refine pure_intro hT Tryz.func87 rfl (by kernel_rfl) rfl rfl fun X hX => ?_
  refine V_go (n := 1000) hT rfl ?_
  refine VL_Y (n := 1000) hT (yl_pure (parts_Check l) rfl rfl rfl) rfl rfl rfl ?_
  refine V_cond rfl (fun h1 => ?_) fun h1 => ?_
  · refine V_go (n := 1000) hT rfl ?_
    refine endsP rfl ?_
    have : placeU l id = (0, 1) := by unfold placeU; rw [if_pos h1]
    rw [this]; exact WkA.refl _
  · refine V_go (n := 1000) hT rfl ?_
    refine VL_ghost hX (ghost_freeze 0 rfl) ?_
    refine VL_Y (n := 1000) hT (yl_makeFunc rfl rfl rfl rfl) rfl rfl rfl ?_
    refine VL_Y (n := 1000) hT (yl_pure (idx_Upload (f := 134) (first := []) (caps := [.eptr [.int .u64 id]]) (fun x => parts_place1 id x) l) rfl rfl rfl) rfl rfl rfl ?_
    refine V_cond rfl (fun h2 => ?_) fun h2 => ?_
    · refine V_go (n := 1000) hT rfl ?_
      refine endsP rfl ?_
      have : placeU l id = (0, 4) := by unfold placeU; rw [if_neg (by rw [h1]; simp), if_pos (show decide (findU l id < 0) = true from h2)]
      rw [this]; exact WkA.refl _
    · refine V_go (n := 1000) hT rfl ?_
      refine endsP rfl ?_
      have : placeU l id = (findU l id, 0) := by unfold placeU; rw [if_neg (by rw [h1]; simp), if_neg (by rw [show decide (findU l id < 0) = false from h2]; simp)]
      rw [this]; exact WkA.refl _
theorem placeU_ok {l : List Upload} {id : Int} (h : ((placeU l id).2 != 0) = false) : (placeU l id).1 = ((placeU l id).1.toNat : Int) ∧ (placeU l id).1.toNat < l.length ∧ l.length ≤ 10 := by
  unfold placeU at h ⊢
  cases h1 : errOf (uploadsOK l) != 0 with
  | true => rw [h1] at h; simp at h
  | false =>
    rw [h1] at h
    cases h2 : decide (findU l id < 0) with
    | true => rw [h2] at h; simp at h
    | false =>
      have h3 := idxOf_range (q := fun u : Upload => u.ID == id) (l := l) h2
      simp only [Bool.false_eq_true, if_false]
      exact ⟨h3.1, h3.2, uploadsOK_len h1⟩

abbrev rUpE (x : Upload × Int) : A := .tup [bUpload x.1, bD (.int .i64 x.2)]
def noU : Upload := ⟨0, empty, []⟩
def findUp (l : List Upload) (id : Int) : Upload × Int := if (placeU l id).2 != 0 then (noU, (placeU l id).2) else (l.getD (placeU l id).1.toNat default, 0)
theorem parts_Find (l : List Upload) (id : Int) : Pure Tryz.prog 44 [bD (dUploads l), bD (.int .u64 id)] (rUpE (findUp l id)) := by
  refine pure_intro hT Tryz.func44 rfl (by kernel_rfl) rfl rfl fun X hX => ?_
  refine V_go (n := 1000) hT rfl ?_
  refine VL_Y (n := 1000) hT (yl_pure (parts_place l id) rfl rfl rfl) rfl rfl rfl ?_
  refine V_cond rfl (fun h1 => ?_) fun h1 => ?_
  · have : findUp l id = (noU, (placeU l id).2) := by unfold findUp; rw [if_pos h1]
    rw [this]
    refine V_go (n := 1000) hT rfl ?_
    exact endsP rfl (.tup ⟨.agg ⟨.refl _, .refl _, .d (.nil 40), trivial⟩, .refl _, trivial⟩)
  · have : findUp l id = (l.getD (placeU l id).1.toNat default, 0) := by unfold findUp; rw [if_neg (by rw [h1]; simp)]
    rw [this]
    obtain ⟨hz, hlt, hlen⟩ := placeU_ok h1
    refine V_go (n := 1000) hT rfl ?_
    refine VL_Y (n := 1000) hT (yl_indexAddr (n := (placeU l id).1.toNat) (cs := eUpload (l.getD (placeU l id).1.toNat default)) hT rfl rfl rfl rfl rfl rfl hz (get_map hlt)) rfl rfl rfl ?_
    exact endsP rfl (WkA.refl _)

def abortU (l : List Upload) (id : Int) : List Upload × Int := if (placeU l id).2 != 0 then ([], (placeU l id).2) else (l.eraseIdx (placeU l id).1.toNat, 0)
theorem parts_Abort (l : List Upload) (id : Int) : Pure Tryz.prog 47 [bD (dUploads l), bD (.int .u64 id)] (rUE (abortU l id)) := by
  refine pure_intro hT Tryz.func47 rfl (by kernel_rfl) rfl rfl fun X hX => ?_
  refine V_go (n := 1000) hT rfl ?_
  refine VL_Y (n := 1000) hT (yl_pure (parts_place l id) rfl rfl rfl) rfl rfl rfl ?_
  refine V_cond rfl (fun h1 => ?_) fun h1 => ?_
  · have : abortU l id = ([], (placeU l id).2) := by unfold abortU; rw [if_pos h1]
    rw [this]
    refine V_go (n := 1000) hT rfl ?_
    exact endsP rfl (rUE_nil _)
  · have : abortU l id = (l.eraseIdx (placeU l id).1.toNat, 0) := by unfold abortU; rw [if_neg (by rw [h1]; simp)]
    rw [this]
    obtain ⟨hz, hlt, hlen⟩ := placeU_ok h1
    generalize (placeU l id).1.toNat = i at hz hlt
    rw [hz]
    refine V_go (n := 1000) hT rfl ?_
    refine VL_T (n := 1000) hT 1 rfl (tl_call [] [(0, 0)] (clone_Upload l) rfl rfl rfl rfl trivial rfl (full_of rfl) rfl rfl rfl rfl) rfl rfl rfl ?_
    refine VL_T (n := 1000) hT 2 rfl (tl_call [(0, 0)] [(1, 1)] (Delete_Upload l i (IntKind.i64.wrap ((i : Int) + 1)) (i64_succ (by omega)) hlt (by omega)) rfl rfl rfl rfl ⟨rfl, trivial⟩ rfl (full_of rfl) rfl rfl rfl rfl) rfl rfl rfl ?_
    refine ends_ghost (ghost_freeze 1 rfl) (endsP rfl (WkA.refl _))

theorem wk_snoc {t : TypeId} {es : List (List D)} {cs cs' : List D} (hl : cs.length = cs'.length) (h : ∀ (j : Nat) (x x' : D), cs[j]? = some x → cs'[j]? = some x' → Wk x x') : Wk (.seq t (es ++ [cs])) (.seq t (es ++ [cs'])) := by
  refine .seq t _ _ (by simp) (fun i a b ha hb => ?_) fun i j a b x x' ha hb hx hx' => ?_
  · rcases Nat.lt_or_ge i es.length with h1 | h1
    · rw [List.getElem?_append_left h1] at ha hb
      rw [ha] at hb; cases hb; rfl
    · rw [List.getElem?_append_right h1] at ha hb
      cases hk : i - es.length with
      | zero => rw [hk] at ha hb; simp at ha hb; subst ha hb; exact hl
      | succ k => rw [hk] at ha; simp at ha
  · rcases Nat.lt_or_ge i es.length with h1 | h1
    · rw [List.getElem?_append_left h1] at ha hb
      rw [ha] at hb; cases hb
      rw [hx] at hx'; cases hx'; exact .refl _
    · rw [List.getElem?_append_right h1] at ha hb
      cases hk : i - es.length with
      | zero => rw [hk] at ha hb; simp at ha hb; subst ha hb; exact h j x x' hx hx'
      | succ k => rw [hk] at ha; simp at ha

def beginBad (l : List Upload) (id : Int) (key : ByteArray) : Bool := (errOf (uploadsOK l) != 0 || !numbered id) || !keyOK key
def beginOrd (l : List Upload) (id : Int) : Bool := decide ((0 : Int) < (l.length : Int)) && decide (id ≤ (l.getD (l.length - 1) default).ID)
def beginU (l : List Upload) (id : Int) (key : ByteArray) : List Upload × Int :=
  if beginBad l id key then ([], 1) else if beginOrd l id then ([], 9) else if (l.length : Int) == 10 then ([], 6) else (l ++ [⟨id, key, []⟩], 0)
theorem parts_Begin (l : List Upload) (id : Int) (key : ByteArray) : Pure Tryz.prog 35 [bD (dUploads l), bD (.int .u64 id), bD (.str key)] (rUE (beginU l id key)) := by
  refine pure_intro hT Tryz.func35 rfl (by kernel_rfl) rfl rfl fun X hX => ?_
  refine V_go (n := 1000) hT rfl ?_
  refine VL_Y (n := 1000) hT (yl_pure (parts_Check l) rfl rfl rfl) rfl rfl rfl ?_
  refine VL_Yp (n := 1000) hT rfl (yl_pure (parts_numbered id) rfl rfl rfl) rfl rfl ?_
  refine VL_Yp (n := 1000) hT rfl (yl_pure (name_Key key) rfl rfl rfl) rfl rfl ?_
  refine V_cond rfl (fun h1 => ?_) fun h1 => ?_
  · have : beginU l id key = ([], 1) := by unfold beginU; rw [if_pos (show beginBad l id key = true from h1)]
    rw [this]
    refine V_go (n := 1000) hT rfl ?_
    exact endsP rfl (rUE_nil _)
  · have hb : beginBad l id key = false := h1
    have hlen : l.length ≤ 10 := by
      unfold beginBad at hb
      simp only [Bool.or_eq_false_iff] at hb
      exact uploadsOK_len hb.1.1
    have hu : beginU l id key = if beginOrd l id then ([], 9) else if (l.length : Int) == 10 then ([], 6) else (l ++ [⟨id, key, []⟩], 0) := by unfold beginU; rw [if_neg (by rw [hb]; simp)]
    rw [hu]
    refine V_go (n := 1000) hT rfl ?_
    refine VL_Yp (n := 1000) hT rfl (Yl.given rfl fun h => yl_indexAddr (n := l.length - 1) (cs := eUpload (l.getD (l.length - 1) default)) hT rfl rfl rfl rfl rfl rfl ?_ (get_map ?_)) rfl rfl ?_
    · have h1 : decide ((0 : Int) < ((l.map eUpload).length : Int)) = true := h.1
      show IntKind.i64.wrap (((l.map eUpload).length : Int) - 1) = _
      rw [List.length_map] at h1 ⊢
      have := of_decide_eq_true h1
      rw [i64_in _ (by omega)]; omega
    · have h1 : decide ((0 : Int) < ((l.map eUpload).length : Int)) = true := h.1
      rw [List.length_map] at h1
      have := of_decide_eq_true h1
      omega
    have ho : beginOrd l id = (decide ((0 : Int) < ((l.map eUpload).length : Int)) && decide (id ≤ (l.getD (l.length - 1) default).ID)) := by unfold beginOrd; rw [List.length_map]
    refine V_cond rfl (fun h2 => ?_) fun h2 => ?_
    · rw [if_pos (ho.trans h2)]
      refine V_go (n := 1000) hT rfl ?_
      exact endsP rfl (rUE_nil _)
    · rw [if_neg (by rw [ho.trans h2]; simp)]
      refine V_go (n := 1000) hT rfl ?_
      refine V_cond rfl (fun h3 => ?_) fun h3 => ?_
      · rw [List.length_map] at h3
        rw [if_pos h3]
        refine V_go (n := 1000) hT rfl ?_
        exact endsP rfl (rUE_nil _)
      · rw [List.length_map] at h3
        rw [if_neg (by rw [h3]; simp)]
        refine V_go (n := 1000) hT rfl ?_
        refine VL_T (n := 1000) hT 1 rfl (tl_call [] [(0, 0)] (clone_Upload l) rfl rfl rfl rfl trivial rfl (full_of rfl) rfl rfl rfl rfl) rfl rfl rfl ?_
        refine VL_T (n := 1000) hT 2 rfl (tl_buildSlice (n := 1) hT rfl rfl rfl rfl rfl rfl rfl rfl) rfl rfl rfl ?_
        refine VL_T (n := 1000) hT 3 rfl (tl_append (n := 2) hT rfl rfl rfl rfl rfl rfl rfl rfl rfl rfl rfl ?_ ?_) rfl rfl rfl ?_
        · exact Nat.le_trans (Nat.mul_le_mul_right _ (show _ ≤ 11 by simp; omega)) (by decide)
        · simp only [maxLen, List.length_map, List.length_singleton]; omega
        refine ends_ghost (ghost_freeze 2 rfl) (endsP rfl ?_)
        show WkA (.tup [bD (.seq 101 (l.map eUpload ++ [[.int .u64 id, .str key, .nilsl]])), bD (.int .i64 0)]) _
        refine .tup ⟨.l (.d ?_), .refl _, trivial⟩
        show Wk _ (.seq 101 ((l ++ [(⟨id, key, []⟩ : Upload)]).map eUpload))
        rw [List.map_append]
        refine wk_snoc rfl fun j x x' hx hx' => ?_
        match j with
        | 0 => simp at hx hx'; subst hx hx'; exact .refl _
        | 1 => simp at hx hx'; subst hx hx'; exact .refl _
        | 2 => simp at hx hx'; subst hx hx'; exact .nil 40
        | j + 3 => simp at hx
end Go.Cel

set_option linter.unusedVariables false
set_option maxRecDepth 100000
set_option maxHeartbeats 4000000
namespace Go.Cel
open Go.Proofs Go.IntWalk

theorem nm1 {m : Nm} {j : Nat} {ds : List D} {t : TypeId} (h : look 0 m = some j) : nmO m some [(0, .cells (ds.map L.d) t)] [] = some [(j, .cells (ds.map L.d) t)] := by
  simp [nmO, h, nmBlk, nmLs_d, revGo_eq]

/-- a table: whether it is made, its lock, its numbers. -/
abbrev dT (d st se : Int) (rest : List D) : List D := .int .u32 d :: .int .i32 st :: .int .u32 se :: rest
abbrev oT (d st se : Int) (rest : List D) : List (Nat × Blk) := [(0, .cells ((dT d st se rest).map L.d) 238)]

theorem x185n : Extern.findNext Tryz.f185 = none := by kernel_rfl
theorem x185 : Extern.find Tryz.f185 = some (Extern.Atomic.loadT (.int .u32)) := by kernel_rfl
theorem x196n : Extern.findNext Tryz.f196 = none := by kernel_rfl
theorem x196 : Extern.find Tryz.f196 = some Extern.Atomic.storeT := by kernel_rfl
theorem x200n : Extern.findNext Tryz.f200 = none := by kernel_rfl
theorem x200 : Extern.find Tryz.f200 = some (fun _ => do mark .disable; pure Extern.Race.none_) := by kernel_rfl
theorem x202n : Extern.findNext Tryz.f202 = none := by kernel_rfl
theorem x202 : Extern.find Tryz.f202 = some (fun _ => do mark .enable; pure Extern.Race.none_) := by kernel_rfl
theorem x201n : Extern.findNext Tryz.f201 = none := by kernel_rfl
theorem x201 : Extern.find Tryz.f201 = some (Extern.Atomic.casT (.int .i32)) := by kernel_rfl
theorem x203n : Extern.findNext Tryz.f203 = none := by kernel_rfl
theorem x203 : Extern.find Tryz.f203 = some (Extern.Race.marked .acquire) := by kernel_rfl
theorem x205n : Extern.findNext Tryz.f205 = none := by kernel_rfl
theorem x205 : Extern.find Tryz.f205 = some (Extern.Race.marked .releaseMerge) := by kernel_rfl
theorem x206n : Extern.findNext Tryz.f206 = none := by kernel_rfl
theorem x206 : Extern.find Tryz.f206 = some (Extern.Atomic.update (Op.intArith .add) .i32 true) := by kernel_rfl

theorem atomic_Load (d st se : Int) (rest : List D) : Con Tryz.prog 178 (oT d st se rest) 1 [.l (.ptr 0 0)] fun r o nx => r = dl (.bool (d != 0)) ∧ o = oT d st se rest ∧ nx = 1 := by
  refine con_intro hT Tryz.func178 rfl (by kernel_rfl) rfl fun X hX => ?_
  refine V_go (n := 1000) hT rfl ?_
  refine VL_Y (n := 1000) hT (yl_fieldAddrN (off := 0) (n := 0) rfl rfl (by kernel_rfl) rfl rfl) rfl rfl rfl ?_
  refine VL_Y (n := 1000) hT (yl_atomicLoad (z := d) rfl rfl Tryz.func185 (by kernel_rfl) rfl x185n x185 rfl rfl rfl rfl) rfl rfl rfl ?_
  exact ⟨.inr rfl, _, _, oT d st se rest, Ghost.refl _ _, rfl, fun x hx => hx, rfl, rfl, rfl⟩

theorem atomic_b32 (b : Bool) : Pure Tryz.prog 197 [bD (.bool b)] (dl (.int .u32 (if b then 1 else 0))) := by
  refine pure_intro hT Tryz.func197 rfl (by kernel_rfl) rfl rfl fun X hX => ?_
  refine V_go (n := 1000) hT rfl ?_
  refine V_cond rfl (fun h1 => ?_) fun h1 => ?_
  · refine V_go (n := 1000) hT rfl ?_
    rw [if_pos h1]; exact endsP rfl (WkA.refl _)
  · refine V_go (n := 1000) hT rfl ?_
    rw [if_neg (by rw [h1]; simp)]; exact endsP rfl (WkA.refl _)
theorem atomic_Store (d st se : Int) (rest : List D) : ConD Tryz.prog 188 (oT d st se rest) 1 [.l (.ptr 0 0), bD (.bool true)] fun r o nx => r = .tup [] ∧ o = oT 1 st se rest ∧ nx = 1 := by
  refine conD_intro hT Tryz.func188 rfl (by kernel_rfl) rfl fun X hX => ?_
  refine V_go (n := 1000) hT rfl ?_
  refine VD_start ?_
  refine VD_go hT rfl rfl ?_
  refine VD_Y hT rfl rfl rfl rfl (yl_fieldAddrN (off := 0) (n := 0) rfl rfl (by kernel_rfl) rfl rfl) rfl rfl rfl ?_
  refine VD_Y hT rfl rfl rfl rfl (yl_pure (atomic_b32 true) rfl rfl rfl) rfl rfl rfl ?_
  refine VD_T (os := [6, 8]) (gs := []) (ids := [0]) (σ := ⟨[6, 8], [9], [0], [0], []⟩) hT rfl rfl (tl_atomicStore (x0 := .d (.int .u32 d)) rfl rfl Tryz.func196 (by kernel_rfl) rfl x196n x196 rfl rfl rfl rfl rfl) rfl rfl 1 rfl rfl ?_
  refine VD_end (n := 1000) hT rfl (by kernel_rfl) (by kernel_rfl) rfl rfl rfl ?_
  exact ⟨.inl rfl, _, _, oT 1 st se rest, Ghost.refl _ _, rfl, fun x hx => hx, rfl, rfl, rfl⟩

theorem isync_Lock (d se : Int) (rest : List D) : Con Tryz.prog 194 (oT d 0 se rest) 1 [.l (.ptr 0 1)] fun r o nx => r = .tup [] ∧ o = oT d 1 se rest ∧ nx = 1 := by
  refine con_intro hT Tryz.func194 rfl (by kernel_rfl) rfl fun X hX => ?_
  refine V_go (n := 1000) hT rfl ?_
  refine VL_Y (n := 1000) hT (yl_mark0 .disable rfl rfl Tryz.func200 (by kernel_rfl) rfl x200n x200 rfl) rfl rfl rfl ?_
  refine VL_T (n := 1000) hT 1 rfl (tl_atomicCas (k := .i32) (z := 0) (z2 := 1) rfl rfl Tryz.func201 (by kernel_rfl) rfl x201n x201 rfl rfl rfl rfl rfl rfl) rfl rfl rfl ?_
  refine V_condT rfl rfl ?_
  refine V_go (n := 1000) hT rfl ?_
  refine V_condT rfl rfl ?_
  refine V_go (n := 1000) hT rfl ?_
  refine VL_Y (n := 1000) hT (yl_mark0 .enable rfl rfl Tryz.func202 (by kernel_rfl) rfl x202n x202 rfl) rfl rfl rfl ?_
  refine VL_Y (n := 1000) hT (yl_toUnsafe (t := 231) rfl (by kernel_rfl) (by kernel_rfl) (by kernel_rfl) rfl rfl rfl rfl) rfl rfl rfl ?_
  refine VL_Y (n := 1000) hT (yl_marked .acquire rfl rfl Tryz.func203 (by kernel_rfl) rfl x203n x203 rfl rfl) rfl rfl rfl ?_
  exact ⟨.inr rfl, _, _, oT d 1 se rest, Ghost.refl _ _, rfl, fun x hx => hx, rfl, rfl, rfl⟩
theorem sync_Lock (d se : Int) (rest : List D) : Con Tryz.prog 186 (oT d 0 se rest) 1 [.l (.ptr 0 1)] fun r o nx => r = .tup [] ∧ o = oT d 1 se rest ∧ nx = 1 := by
  refine con_intro hT Tryz.func186 rfl (by kernel_rfl) rfl fun X hX => ?_
  refine V_go (n := 1000) hT rfl ?_
  refine VL_Y (n := 1000) hT (yl_fieldAddrN (off := 0) (n := 1) rfl rfl (by kernel_rfl) rfl rfl) rfl rfl rfl ?_
  refine VL_T (n := 1000) hT 1 rfl (tl_call [(0, 0)] [] (isync_Lock d se rest) rfl rfl rfl (nm1 rfl) ⟨rfl, trivial⟩ rfl (full_of rfl) rfl rfl (nm1 rfl) rfl) rfl rfl rfl ?_
  exact ⟨.inl rfl, _, _, oT d 1 se rest, Ghost.refl _ _, rfl, fun x hx => hx, rfl, rfl, rfl⟩
theorem isync_Unlock (d se : Int) (rest : List D) : Con Tryz.prog 195 (oT d 1 se rest) 1 [.l (.ptr 0 1)] fun r o nx => r = .tup [] ∧ o = oT d 0 se rest ∧ nx = 1 := by
  refine con_intro hT Tryz.func195 rfl (by kernel_rfl) rfl fun X hX => ?_
  refine V_go (n := 1000) hT rfl ?_
  refine V_condT rfl rfl ?_
  refine V_go (n := 1000) hT rfl ?_
  refine VL_Y (n := 1000) hT (yl_toUnsafe (t := 231) rfl (by kernel_rfl) (by kernel_rfl) (by kernel_rfl) rfl rfl rfl rfl) rfl rfl rfl ?_
  refine VL_Y (n := 1000) hT (yl_marked .releaseMerge rfl rfl Tryz.func205 (by kernel_rfl) rfl x205n x205 rfl rfl) rfl rfl rfl ?_
  refine VL_Y (n := 1000) hT (yl_mark0 .disable rfl rfl Tryz.func200 (by kernel_rfl) rfl x200n x200 rfl) rfl rfl rfl ?_
  refine VL_T (n := 1000) hT 1 rfl (tl_atomicAdd (k := .i32) (z := 1) (z2 := -1) (z3 := 0) rfl rfl Tryz.func206 (by kernel_rfl) rfl x206n x206 rfl rfl rfl rfl rfl (by decide)) rfl rfl rfl ?_
  refine V_condF rfl rfl ?_
  refine V_go (n := 1000) hT rfl ?_
  refine VL_Y (n := 1000) hT (yl_mark0 .enable rfl rfl Tryz.func202 (by kernel_rfl) rfl x202n x202 rfl) rfl rfl rfl ?_
  exact ⟨.inl rfl, _, _, oT d 0 se rest, Ghost.refl _ _, rfl, fun x hx => hx, rfl, rfl, rfl⟩
theorem sync_Unlock (d se : Int) (rest : List D) : ConD Tryz.prog 187 (oT d 1 se rest) 1 [.l (.ptr 0 1)] fun r o nx => r = .tup [] ∧ o = oT d 0 se rest ∧ nx = 1 := by
  refine conD_intro hT Tryz.func187 rfl (by kernel_rfl) rfl fun X hX => ?_
  refine V_go (n := 1000) hT rfl ?_
  refine VL_Y (n := 1000) hT (yl_fieldAddrN (off := 0) (n := 1) rfl rfl (by kernel_rfl) rfl rfl) rfl rfl rfl ?_
  refine VL_T (n := 1000) hT 1 rfl (tl_call [(0, 0)] [] (isync_Unlock d se rest) rfl rfl rfl (nm1 rfl) ⟨rfl, trivial⟩ rfl (full_of rfl) rfl rfl (nm1 rfl) rfl) rfl rfl rfl ?_
  exact ⟨.inl rfl, _, _, oT d 0 se rest, Ghost.refl _ _, rfl, fun x hx => hx, rfl, rfl, rfl⟩

/-- one bit falls off. -/
def stepC (c : Int) : Int := IntKind.u32.wrap ((BitVec.ofInt IntKind.u32.bits (c.fdiv (2 ^ (min 1 IntKind.u32.bits))) ^^^ BitVec.ofInt IntKind.u32.bits (IntKind.u32.wrap (2197175160 * IntKind.u32.wrap ((BitVec.ofInt IntKind.u32.bits c &&& BitVec.ofInt IntKind.u32.bits 1).toNat)))).toNat)
def iterC : Nat → Int → Int
  | 0, c => c
  | n + 1, c => stepC (iterC n c)
def tabC (i : Nat) : Int := iterC 8 (IntKind.u32.wrap (i : Int))
def tabRest (i : Nat) : List D := (List.range 256).map fun j => .int .u32 (if j < i then tabC j else 0)
theorem tab_set (d st se : Int) {i : Nat} (h : i < 256) : ((dT d st se (tabRest i)).map L.d).set (3 + i) (.d (.int .u32 (tabC i))) = (dT d st se (tabRest (i + 1))).map L.d := by
  rw [show 3 + i = i + 1 + 1 + 1 by omega]
  simp only [dT, List.map_cons, List.set_cons_succ]
  congr 3
  apply List.ext_getElem?
  intro j
  rw [List.getElem?_set]
  simp only [tabRest, List.map_map, List.getElem?_map, List.length_map, List.length_range]
  by_cases e : i = j
  · subst e
    simp [h]
  · rw [if_neg e]
    by_cases hj : j < 256
    · simp [hj]
      have : j < i ↔ j < i + 1 := by omega
      simp [this]
    · simp [hj]
theorem tabRest_len (i : Nat) : (tabRest i).length = 256 := by simp [tabRest]

abbrev oB (d st se : Int) (rest : List D) : List (Nat × Blk) := [(0, .cells ((dT d st se rest).map L.d) 238), (1, .cells [.ptr 0 0] 247)]
theorem nm2 {m : Nm} {j k : Nat} {ds : List D} {t t2 : TypeId} (h : look 0 m = some j) (h2 : look 1 m = some k) : nmO m some [(0, .cells (ds.map L.d) t), (1, .cells [.ptr 0 0] t2)] [] = some [(j, .cells (ds.map L.d) t), (k, .cells [.ptr j 0] t2)] := by
  simp [nmO, h, h2, nmBlk, nmLs_d, revGo_eq, nmLs, nmL]

theorem renBlk_d (m : Nat → Nat) (ds : List D) (t : TypeId) : renBlk m (.cells (ds.map L.d) t) = .cells (ds.map L.d) t := by
  simp only [renBlk, List.map_map]; congr 1

theorem ownB {mp : Nat → Nat} (h0 : mp 0 = 0) (h1 : mp 1 = 1) (d st se : Int) (rest : List D) : OwnIn mp (oB d st se rest) (oB d st se rest) := by
  refine ⟨?_, ?_, trivial⟩
  · rw [h0, renBlk_d]; rfl
  · rw [h1]; simp [renBlk, renL, h0]; rfl

end Go.Cel

set_option linter.unusedVariables false
set_option maxRecDepth 100000
set_option maxHeartbeats 4000000
namespace Go.Cel
open Go.Proofs Go.IntWalk

/-- One step, and no further. -/
theorem VL_Ys {P : Program} {X : CtxD} {o : Oper} {s s' : St} {v : A} {all rest : List Oper} {k : List It} {Q : Post} (hy : Yl P o s [] v) (hg : ready all s o = true) (hp : put s o.dst [] v = some s') (hv : VL P X all rest k s' Q) : VL P X all (o :: rest) k s Q := by
  intro ρ M a W g
  refine wpList_do (ready_wanted g hg) (hy X ρ M s a W _ _ g (SubS.self g) (holds_nil _) fun M' W' x _ _ g' hd => ?_)
  exact hv ρ M' _ W' (g'.putS hp ⟨fun _ => hd, fun hh => absurd (holds_nil _) hh⟩ (by simp))
theorem writeTab (d st se : Int) {i : Nat} (h : i < 256) : writeGo (3 + i) [.d (.int .u32 (tabC i))] ((dT d st se (tabRest i)).map L.d) [] some = some ((dT d st se (tabRest (i + 1))).map L.d) := by
  rw [writeGo_set (by simp [tabRest_len]; omega), tab_set d st se h]; rfl
theorem made1 (d st se : Int) : Con Tryz.prog 175 (oB d st se (tabRest 0)) 2 [.l (.ptr 1 0)] fun r o nx => r = .tup [] ∧ o = oB d st se (tabRest 256) ∧ nx = 2 := by
  refine con_intro hT Tryz.func175 rfl (by kernel_rfl) rfl fun X hX => ?_
  refine V_go (n := 1000) hT rfl ?_
  refine V_loop hX (fun (i : Nat) => ⟨[(3, [], dl (.int .i64 i)), (0, [], .b (.l (.ptr 1 0)))], oB d st se (tabRest i), 2, [], [], 24⟩) (fun i => i ≤ 256) (fun i => 256 - i) 0 ?_ (Nat.zero_le _) fun i hi => ?_
  · exact ghost_of [(0, 0), (1, 1)] rfl rfl rfl rfl rfl ⟨⟨rfl, rfl⟩, ⟨rfl, rfl⟩, trivial⟩ (ownB rfl rfl d st se (tabRest 0))
  refine V_go (n := 1000) hT rfl ?_
  refine V_cond rfl (fun hlt => ?_) fun hge => ?_
  · have hlt' : i < 256 := by simp at hlt; omega
    have hw := i64_succ (n := i) (by omega)
    refine V_go (n := 1000) hT rfl ?_
    refine V_loop hX (fun (j : Nat) => ⟨[(8, [], dl (.int .i64 j)), (1, [], dl (.int .i64 i)), (2, [], dl (.int .u32 (iterC j (IntKind.u32.wrap (i : Int))))), (3, [], dl (.int .i64 i)), (0, [], .b (.l (.ptr 1 0)))], oB d st se (tabRest i), 2, [], [], 24⟩) (fun j => j ≤ 8) (fun j => 8 - j) 0 ?_ (Nat.zero_le _) fun j hj => ?_
    · exact ghost_of [(0, 0), (1, 1)] rfl rfl rfl rfl rfl ⟨⟨rfl, rfl⟩, ⟨rfl, rfl⟩, ⟨rfl, rfl⟩, ⟨rfl, rfl⟩, ⟨rfl, rfl⟩, trivial⟩ (ownB rfl rfl d st se (tabRest i))
    refine V_go (n := 1000) hT rfl ?_
    refine V_cond rfl (fun hlt2 => ?_) fun hge2 => ?_
    · have hlt2' : j < 8 := by simp at hlt2; omega
      have hw2 := i64_succ (n := j) (by omega)
      refine V_go (n := 1000) hT rfl ?_
      refine ⟨j + 1, by omega, by omega, ?_⟩
      exact ghost_of [(0, 0), (1, 1)] rfl rfl rfl rfl rfl ⟨⟨rfl, congrArg (fun z => some (([] : Path), dl (.int .i64 z))) hw2⟩, ⟨rfl, rfl⟩, ⟨rfl, rfl⟩, ⟨rfl, rfl⟩, ⟨rfl, rfl⟩, trivial⟩ (ownB rfl rfl d st se (tabRest i))
    · have hj8 : j = 8 := by simp at hge2; omega
      subst hj8
      refine V_go (n := 1000) hT rfl ?_
      refine VL_Y (n := 1000) hT (yl_fieldAddrN (off := 3) (n := 3) rfl rfl (by kernel_rfl) rfl rfl) rfl rfl rfl ?_
      refine VL_Ys (yl_indexAddrArr (n := 256) (e := 36) (j := i) (off := 3 + i) hT rfl rfl rfl rfl rfl rfl hlt' (by show 3 + i = 3 + i * 1; omega) rfl) rfl rfl ?_
      refine VL_T (n := 1000) hT 2 rfl (tl_store (x0 := .d (.int .u32 (tabC i))) (new := []) (cs' := (dT d st se (tabRest (i + 1))).map L.d) hT rfl rfl rfl rfl rfl rfl rfl rfl (writeTab d st se hlt')) rfl rfl rfl ?_
      refine ⟨i + 1, by omega, by omega, ?_⟩
      exact ghost_of [(0, 0), (1, 1)] rfl rfl rfl rfl rfl ⟨⟨rfl, congrArg (fun z => some (([] : Path), dl (.int .i64 z))) hw⟩, ⟨rfl, rfl⟩, trivial⟩ (ownB rfl rfl d st se (tabRest (i + 1)))
  · have hi6 : i = 256 := by simp at hge; omega
    subst hi6
    refine V_go (n := 1000) hT rfl ?_
    exact ⟨.inl rfl, _, _, oB d st se (tabRest 256), Ghost.refl _ _, rfl, fun x hx => hx, rfl, rfl, rfl⟩
end Go.Cel

set_option linter.unusedVariables false
set_option maxRecDepth 100000
set_option maxHeartbeats 4000000
namespace Go.Cel
open Go.Proofs Go.IntWalk

theorem nm2' {ds : List D} {t t2 : TypeId} : nmO [(0, 0), (1, 1)] some [(0, .cells (ds.map L.d) t), (1, .cells [.ptr 0 0] t2)] [] = some [(0, .cells (ds.map L.d) t), (1, .cells [.ptr 0 0] t2)] := nm2 rfl rfl

theorem once_doSlow : Con Tryz.prog 179 (oB 0 0 0 (tabRest 0)) 2 [.l (.ptr 0 0), .l (.ofn 175 [] [.ptr 1 0])] fun r o nx => r = .tup [] ∧ o = oB 1 0 0 (tabRest 256) ∧ nx = 2 := by
  refine con_introD hT Tryz.func179 rfl (by kernel_rfl) rfl fun X C0 hX hF hp => ?_
  refine V_go (n := 1000) hT rfl ?_
  refine VL_Y (n := 1000) hT (yl_fieldAddrN (off := 1) (n := 1) rfl rfl (by kernel_rfl) rfl rfl) rfl rfl rfl ?_
  refine VL_T (n := 1000) hT 2 rfl (tl_call [(0, 0)] [] (sync_Lock 0 0 (tabRest 0)) rfl rfl rfl (nm1 rfl) ⟨rfl, trivial⟩ rfl (full_of rfl) rfl rfl (nm1 rfl) rfl) rfl rfl rfl ?_
  refine VL_Y (n := 1000) hT (yl_fieldAddrN (off := 1) (n := 1) rfl rfl (by kernel_rfl) rfl rfl) rfl rfl rfl ?_
  refine VL_defer hF hp (sync_Unlock 0 0 (tabRest 0)).1 rfl rfl rfl rfl fun X1 hX1 hF1 hp1 => ?_
  refine VL_go (n := 1000) hT rfl ?_
  refine VL_Y (n := 1000) hT (yl_fieldAddrN (off := 0) (n := 0) rfl rfl (by kernel_rfl) rfl rfl) rfl rfl rfl ?_
  refine VL_T (n := 1000) hT 2 rfl (tl_call [(0, 0)] [] (atomic_Load 0 1 0 (tabRest 0)) rfl rfl rfl (nm1 rfl) ⟨rfl, trivial⟩ rfl (full_of rfl) rfl rfl (nm1 rfl) rfl) rfl rfl rfl ?_
  refine V_condT rfl rfl ?_
  refine V_go (n := 1000) hT rfl ?_
  refine VL_Y (n := 1000) hT (yl_fieldAddrN (off := 0) (n := 0) rfl rfl (by kernel_rfl) rfl rfl) rfl rfl rfl ?_
  refine VL_defer hF1 hp1 (atomic_Store 0 0 0 (tabRest 0)).1 rfl rfl rfl rfl fun X2 hX2 hF2 hp2 => ?_
  refine VL_go (n := 1000) hT rfl ?_
  refine VL_T (n := 1000) hT 2 rfl (tl_call [(0, 0), (1, 1)] [] (made1 0 1 0) rfl rfl rfl nm2' ⟨rfl, rfl, trivial⟩ rfl (full_of rfl) rfl rfl nm2' rfl) rfl rfl rfl ?_
  refine ⟨.inl rfl, ?_⟩
  refine leave_call [(0, 0)] [] 2 (atomic_Store 0 1 0 (tabRest 256)) rfl (nm1 rfl) ⟨rfl, trivial⟩ rfl (full_of rfl) rfl rfl (nm1 rfl) rfl rfl ?_
  refine leave_call [(0, 0)] [] 2 (sync_Unlock 1 0 (tabRest 256)) rfl (nm1 rfl) ⟨rfl, trivial⟩ rfl (full_of rfl) rfl rfl (nm1 rfl) rfl rfl ?_
  exact ⟨_, _, oB 1 0 0 (tabRest 256), Ghost.refl _ _, rfl, fun x hx => hx, rfl, rfl, rfl⟩

theorem once_Do : Con Tryz.prog 174 (oB 0 0 0 (tabRest 0)) 2 [.l (.ptr 0 0), .l (.ofn 175 [] [.ptr 1 0])] fun r o nx => r = .tup [] ∧ o = oB 1 0 0 (tabRest 256) ∧ nx = 2 := by
  refine con_intro hT Tryz.func174 rfl (by kernel_rfl) rfl fun X hX => ?_
  refine V_go (n := 1000) hT rfl ?_
  refine VL_Y (n := 1000) hT (yl_fieldAddrN (off := 0) (n := 0) rfl rfl (by kernel_rfl) rfl rfl) rfl rfl rfl ?_
  refine VL_T (n := 1000) hT 2 rfl (tl_call [(0, 0)] [] (atomic_Load 0 0 0 (tabRest 0)) rfl rfl rfl (nm1 rfl) ⟨rfl, trivial⟩ rfl (full_of rfl) rfl rfl (nm1 rfl) rfl) rfl rfl rfl ?_
  refine V_condT rfl rfl ?_
  refine V_go (n := 1000) hT rfl ?_
  refine VL_T (n := 1000) hT 2 rfl (tl_call [(0, 0), (1, 1)] [] once_doSlow rfl rfl rfl nm2' ⟨rfl, rfl, trivial⟩ rfl (full_of rfl) rfl rfl nm2' rfl) rfl rfl rfl ?_
  exact ⟨.inl rfl, _, _, oB 1 0 0 (tabRest 256), Ghost.refl _ _, rfl, by simp, rfl, rfl, rfl⟩

theorem table_made : Con Tryz.prog 165 (oT 0 0 0 (tabRest 0)) 1 [.l (.ptr 0 0)] fun r o nx => r = .b (.l (.ptr 0 3)) ∧ o = oT 1 0 0 (tabRest 256) ∧ nx = 2 := by
  refine con_intro hT Tryz.func165 rfl (by kernel_rfl) rfl fun X hX => ?_
  refine V_go (n := 1000) hT rfl ?_
  refine VL_Y (n := 1000) hT (yl_fieldAddrN (off := 0) (n := 0) rfl rfl (by kernel_rfl) rfl rfl) rfl rfl rfl ?_
  refine VL_Y (n := 1000) hT (yl_makeFuncO rfl rfl rfl rfl) rfl rfl rfl ?_
  refine VL_T (n := 1000) hT 2 rfl (tl_call [(0, 0), (1, 1)] [] once_Do rfl rfl rfl nm2' ⟨rfl, rfl, trivial⟩ rfl (full_of rfl) rfl rfl nm2' rfl) rfl rfl rfl ?_
  refine VL_Y (n := 1000) hT (yl_fieldAddrN (off := 3) (n := 3) rfl rfl (by kernel_rfl) rfl rfl) rfl rfl rfl ?_
  exact ⟨.inr rfl, _, _, oT 1 0 0 (tabRest 256), Ghost.refl _ _, rfl, by simp, rfl, rfl, rfl⟩
end Go.Cel

set_option linter.unusedVariables false
set_option maxRecDepth 100000
set_option maxHeartbeats 4000000
namespace Go.Cel
open Go.Proofs Go.IntWalk

/-- One step, and no further. -/
theorem VD_Ys {P : Program} {T : Nat → Ty} (hT : TabOK P T) {o : Oper} {s : St} {p : Path} {v : A} {all rest : List Oper} {s0 s1 : St} {rev : List Sig} {G : Prop} {os gs ids rs dd : List Nat} (hd : all.drop rev.length = o :: rest)
    (hpr : prepD all s o (fun p rs os gs ids => some (p, rs, os, gs, ids)) = some (p, rs, os, gs, ids)) (hck : (wfB (part s os gs ids) && pin (part s os gs ids) p) = true) (hp : pathOf all (part s os gs ids) o = some p) (hy : Yl P o (part s os gs ids) p v)
    (hput : putV s o p v = some s1) (hdd : dstN o.dst = dd) (hv : VD P all s0 (⟨rs, dd, ids, [], []⟩ :: rev) s1 G) : VD P all s0 rev s G := fun hV => by
  obtain ⟨p', os', gs', ids', h1, h2⟩ := prepD_some hpr
  simp only [Option.some.injEq, Prod.mk.injEq] at h2
  obtain ⟨rfl, h3, rfl, rfl, rfl⟩ := h2
  simp only [Bool.and_eq_true] at hck
  have hi : all[rev.length]? = some o := by
    have : (all.drop rev.length)[0]? = some o := by rw [hd]; rfl
    simpa using this
  obtain ⟨c, hc⟩ := stepD_Y hi hp hck.1 hy hput
  rw [h3, hdd] at hc
  refine hv ?_
  rw [List.reverse_cons]
  exact hV.snoc (by simpa using hc)
theorem zeroTable : zeroNow Tryz.prog 238 (dT 0 0 0 (tabRest 0)) = true := by kernel_rfl
theorem tabGet {d st se : Int} {j : Nat} (h : j < 256) : ((dT d st se (tabRest 256)).map L.d)[3 + j]? = some (.d (.int .u32 (tabC j))) := by
  rw [show 3 + j = j + 1 + 1 + 1 by omega]
  simp [dT, tabRest, h]

/-- all bits turned. -/
def notC (c : Int) : Int := IntKind.u32.wrap (BitVec.ofInt IntKind.u32.bits (if IntKind.u32.signed then -1 else IntKind.u32.max) ^^^ BitVec.ofInt IntKind.u32.bits c).toNat
/-- one octet more. -/
def ixC (c : Int) (b : UInt8) : Int := IntKind.u8.wrap (BitVec.ofInt IntKind.u8.bits (IntKind.u8.wrap c) ^^^ BitVec.ofInt IntKind.u8.bits (b.toNat : Int)).toNat
def moreC (c : Int) (b : UInt8) : Int := IntKind.u32.wrap (BitVec.ofInt IntKind.u32.bits (tabC (ixC c b).toNat) ^^^ BitVec.ofInt IntKind.u32.bits (c.fdiv (2 ^ (min 8 IntKind.u32.bits)))).toNat
theorem ixC_lt (c : Int) (b : UInt8) : ixC c b = ((ixC c b).toNat : Int) ∧ (ixC c b).toNat < 256 := by
  have h : ∀ z, 0 ≤ IntKind.u8.wrap z ∧ IntKind.u8.wrap z < 256 := fun z => by rw [IntKind.wrap_u8]; omega
  have := h (BitVec.ofInt IntKind.u8.bits (IntKind.u8.wrap c) ^^^ BitVec.ofInt IntKind.u8.bits (b.toNat : Int)).toNat
  unfold ixC
  omega
def moreT (s : ByteArray) : Nat → Int → Int
  | 0, c => c
  | i + 1, c => moreC (moreT s i c) (bat s i)

theorem tag_More (c : Int) (s : ByteArray) (hs : s.size < 4611686018427387904) : Pure Tryz.prog 137 [bD (.int .u32 c), bD (.str s)] (dl (.int .u32 (notC (moreT s s.size (notC c))))) := by
  refine pure_intro hT Tryz.func137 rfl (by kernel_rfl) rfl rfl fun X hX => ?_
  refine V_go (n := 1000) hT rfl ?_
  refine VL_T (n := 1000) hT 1 rfl (tl_allocN (n := 0) rfl rfl rfl zeroTable) rfl rfl rfl ?_
  refine VL_T (n := 1000) hT 2 rfl (tl_call [(0, 0)] [] table_made rfl rfl rfl (nm1 rfl) ⟨rfl, trivial⟩ rfl (full_of rfl) rfl rfl (nm1 rfl) rfl) rfl rfl rfl ?_
  refine VL_Y (n := 1000) hT (yl_unXor rfl rfl rfl) rfl rfl rfl ?_
  refine V_loop hX (fun (i : Nat) => ⟨[(14, [], dl (.int .i64 i)), (13, [], dl (.int .i64 s.size)), (6, [], .b (.l (.ptr 0 3))), (7, [], dl (.int .u32 (moreT s i (notC c)))), (1, [], dl (.str s)), (4, [], dl (.int .u32 0))], oT 1 0 0 (tabRest 256), 1, [], [], 33⟩)
      (fun i => i ≤ s.size) (fun i => s.size - i) 0 ?_ (Nat.zero_le _) fun i hi => ?_
  · exact ghost_of [(0, 0)] rfl rfl rfl rfl rfl ⟨⟨rfl, rfl⟩, ⟨rfl, rfl⟩, ⟨rfl, rfl⟩, ⟨rfl, rfl⟩, ⟨rfl, rfl⟩, ⟨rfl, rfl⟩, trivial⟩ ⟨congrArg some (renBlk_d _ (dT 1 0 0 (tabRest 256)) 238).symm, trivial⟩
  refine V_go (n := 1000) hT rfl ?_
  refine V_cond rfl (fun hlt => ?_) fun hge => ?_
  · have hlt' : i < s.size := by simpa using hlt
    have hw := i64_succ (n := i) (by omega)
    refine V_go (n := 1000) hT rfl ?_
    refine VD_start ?_
    refine VD_go hT rfl rfl ?_
    refine VD_Y hT rfl rfl rfl rfl (yl_index hT rfl rfl rfl rfl rfl rfl (bat_get hlt')) rfl rfl rfl ?_
    refine VD_Ys hT rfl rfl rfl rfl (yl_indexAddrArr (n := 256) (e := 36) (j := (ixC (moreT s i (notC c)) (bat s i)).toNat) (off := 3 + (ixC (moreT s i (notC c)) (bat s i)).toNat) hT rfl rfl rfl rfl rfl (ixC_lt _ _).1 (ixC_lt _ _).2 (by show 3 + _ = 3 + _ * 1; omega) rfl) rfl rfl ?_
    refine VD_Y hT rfl rfl rfl rfl (yl_loadAt hT rfl rfl rfl rfl rfl (tabGet (ixC_lt _ _).2) rfl) rfl rfl rfl ?_
    refine VD_end (n := 1000) hT rfl (by kernel_rfl) (by kernel_rfl) rfl rfl rfl ?_
    refine ⟨i + 1, hlt', by omega, ?_⟩
    exact ghost_of [(0, 0)] rfl rfl rfl rfl rfl ⟨⟨rfl, congrArg (fun z => some (([] : Path), dl (.int .i64 z))) hw⟩, ⟨rfl, rfl⟩, ⟨rfl, rfl⟩, ⟨rfl, rfl⟩, ⟨rfl, rfl⟩, ⟨rfl, rfl⟩, trivial⟩ ⟨congrArg some (renBlk_d _ (dT 1 0 0 (tabRest 256)) 238).symm, trivial⟩
  · have hi6 : i = s.size := by simp at hge; omega
    subst hi6
    refine V_go (n := 1000) hT rfl ?_
    refine VL_Y (n := 1000) hT (yl_unXor rfl rfl rfl) rfl rfl rfl ?_
    exact endsP rfl (WkA.refl _)

/-- the tag of a text. -/
def ofT (s : ByteArray) : Int := notC (moreT s s.size (notC 0))
theorem tag_Of (s : ByteArray) (hs : s.size < 4611686018427387904) : Pure Tryz.prog 93 [bD (.str s)] (dl (.int .u32 (ofT s))) := by
  refine pure_intro hT Tryz.func93 rfl (by kernel_rfl) rfl rfl fun X hX => ?_
  refine V_go (n := 1000) hT rfl ?_
  refine VL_Y (n := 1000) hT (yl_pure (tag_More 0 s hs) rfl rfl rfl) rfl rfl rfl ?_
  exact endsP rfl (WkA.refl _)
end Go.Cel
