/- CxF: how many octets there are. -/
import Derived.Test.YtflmcnpfeikoeaaGreatDoorK12
import Derived.Test.YtflmcnpfeikoeaaGreatDoorK07
import Derived.Test.YtflmcnpfeikoeaaGreatDoorK08
set_option linter.unusedVariables false
set_option maxRecDepth 100000
namespace Go.Cel
open Go.Proofs Go.IntWalk

theorem wrap_add (a b : Int) : IntKind.i64.wrap (IntKind.i64.wrap a + b) = IntKind.i64.wrap (a + b) := by
  rw [IntKind.wrap_i64, IntKind.wrap_i64, IntKind.wrap_i64]; omega

def octP : List Part → Int
  | [] => 0
  | p :: r => (p.Data.size : Int) + octP r
def octU : List Upload → Int
  | [] => 0
  | u :: r => octP u.L + octU r
theorem octP_take {l : List Part} {i : Nat} (h : i < l.length) : octP (l.take (i + 1)) = octP (l.take i) + ((l.getD i default).Data.size : Int) := by
  induction l generalizing i with
  | nil => simp at h
  | cons p r ih =>
    cases i with
    | zero => simp [octP]
    | succ i =>
      have := ih (i := i) (by simpa using h)
      simp only [List.take_succ_cons, octP, this]
      simp; omega
theorem octU_take {l : List Upload} {i : Nat} (h : i < l.length) : octU (l.take (i + 1)) = octU (l.take i) + octP (l.getD i default).L := by
  induction l generalizing i with
  | nil => simp at h
  | cons p r ih =>
    cases i with
    | zero => simp [octU]
    | succ i =>
      have := ih (i := i) (by simpa using h)
      simp only [List.take_succ_cons, octU, this]
      simp; omega

theorem parts_Octets (l : List Upload) : Pure Tryz.prog 127 [bD (dUploads l)] (dl (.int .i64 (IntKind.i64.wrap (octU l)))) := by
  refine pure_intro hT Tryz.func127 rfl (by kernel_rfl) rfl rfl fun X hX => ?_
  refine V_lenb (j := 0) rfl fun hlen _ => ?_
  simp only [List.length_map, maxLen] at hlen
  refine V_go (n := 1000) hT rfl ?_
  refine V_loop hX (fun (x : Nat × Int) => ⟨[(10, [], dl (.int .i64 x.1)), (9, [], dl (.int .i64 l.length)), (8, [], dl (dUploads l)), (3, [], dl (.int .i64 x.2)), (2, [], dl (.int .i64 0))], [], 0, [], [], 29⟩)
    (fun x => x.1 ≤ l.length ∧ x.2 = IntKind.i64.wrap (octU (l.take x.1))) (fun x => l.length - x.1) (0, 0) ?_ ⟨Nat.zero_le _, by simp only [List.take_zero, octU]; decide⟩ fun x hx => ?_
  · exact ghost_of [] rfl rfl rfl rfl rfl ⟨⟨rfl, rfl⟩, ⟨rfl, congrArg (fun (n : Nat) => some (([] : Path), dl (.int .i64 n))) (List.length_map ..)⟩, ⟨rfl, rfl⟩, ⟨rfl, rfl⟩, ⟨rfl, rfl⟩, trivial⟩ trivial
  obtain ⟨i, z⟩ := x
  obtain ⟨hi, hz⟩ := hx
  simp only at hi hz
  dsimp only
  refine V_go (n := 1000) hT rfl ?_
  refine V_cond rfl (fun hlt => ?_) fun hge => ?_
  · have hlt' : i < l.length := by simpa using hlt
    have hw := i64_succ (n := i) (by omega)
    refine V_go (n := 1000) hT rfl ?_
    refine VL_Y (n := 1000) hT (yl_indexAddr (n := i) (cs := eUpload (l.getD i default)) hT rfl rfl rfl rfl rfl rfl rfl (get_map hlt')) rfl rfl rfl ?_
    generalize hu : l.getD i default = u
    refine V_lenb (j := 15) rfl fun hlen2 _ => ?_
    simp only [List.length_map, maxLen] at hlen2
    refine V_loop hX (fun (y : Nat × Int) => ⟨[(17, [], dl (.int .i64 y.1)), (16, [], dl (.int .i64 u.L.length)), (15, [], dl (dParts u.L)), (10, [], dl (.int .i64 i)), (9, [], dl (.int .i64 l.length)), (8, [], dl (dUploads l)), (3, [], dl (.int .i64 y.2)), (2, [], dl (.int .i64 0))], [], 0, [], [], 29⟩)
      (fun y => y.1 ≤ u.L.length ∧ y.2 = IntKind.i64.wrap (octU (l.take i) + octP (u.L.take y.1))) (fun y => u.L.length - y.1) (0, z) ?_ ⟨Nat.zero_le _, by simp [octP, hz]⟩ fun y hy => ?_
    · exact ghost_of [] rfl rfl rfl rfl rfl ⟨⟨rfl, rfl⟩, ⟨rfl, congrArg (fun (n : Nat) => some (([] : Path), dl (.int .i64 n))) (List.length_map ..)⟩, ⟨rfl, rfl⟩, ⟨rfl, rfl⟩, ⟨rfl, rfl⟩, ⟨rfl, rfl⟩, ⟨rfl, rfl⟩, ⟨rfl, rfl⟩, trivial⟩ trivial
    obtain ⟨j, w⟩ := y
    obtain ⟨hj, hwv⟩ := hy
    simp only at hj hwv
    dsimp only
    refine V_go (n := 1000) hT rfl ?_
    refine V_cond rfl (fun hlt2 => ?_) fun hge2 => ?_
    · have hlt2' : j < u.L.length := by simpa using hlt2
      have hw2 := i64_succ (n := j) (by omega)
      refine V_go (n := 1000) hT rfl ?_
      refine VL_Y (n := 1000) hT (yl_indexAddr (n := j) (cs := ePart (u.L.getD j default)) hT rfl rfl rfl rfl rfl rfl rfl (get_map hlt2')) rfl rfl rfl ?_
      refine ⟨(j + 1, IntKind.i64.wrap (w + ((u.L.getD j default).Data.size : Int))), ⟨hlt2', ?_⟩, by simp only; omega, ?_⟩
      · simp only
        rw [hwv, wrap_add, octP_take hlt2', Int.add_assoc]
      · exact ghost_of [] rfl rfl rfl rfl rfl ⟨⟨rfl, congrArg (fun z => some (([] : Path), dl (.int .i64 z))) hw2⟩, ⟨rfl, rfl⟩, ⟨rfl, rfl⟩, ⟨rfl, rfl⟩, ⟨rfl, rfl⟩, ⟨rfl, rfl⟩, ⟨rfl, rfl⟩, ⟨rfl, rfl⟩, trivial⟩ trivial
    · refine V_go (n := 1000) hT rfl ?_
      have hj0 : j = u.L.length := by simp at hge2; omega
      refine ⟨(i + 1, w), ⟨hlt', ?_⟩, by simp only; omega, ?_⟩
      · simp only
        rw [hwv, octU_take hlt', hu, hj0, List.take_length]
      · exact ghost_of [] rfl rfl rfl rfl rfl ⟨⟨rfl, congrArg (fun z => some (([] : Path), dl (.int .i64 z))) hw⟩, ⟨rfl, rfl⟩, ⟨rfl, rfl⟩, ⟨rfl, rfl⟩, ⟨rfl, rfl⟩, trivial⟩ trivial
  · refine V_go (n := 1000) hT rfl ?_
    refine endsP rfl ?_
    have hi0 : i = l.length := by simp at hge; omega
    rw [hz, hi0, List.take_length]; exact WkA.refl _

def octV : List Version → Int
  | [] => 0
  | v :: r => (v.Data.size : Int) + octV r
def octE : List Entry → Int
  | [] => 0
  | x :: r => octV x.L + octE r
def numE : List Entry → Int
  | [] => 0
  | x :: r => (x.L.length : Int) + numE r
theorem octV_take {l : List Version} {i : Nat} (h : i < l.length) : octV (l.take (i + 1)) = octV (l.take i) + ((l.getD i default).Data.size : Int) := by
  induction l generalizing i with
  | nil => simp at h
  | cons p r ih =>
    cases i with
    | zero => simp [octV]
    | succ i =>
      have := ih (i := i) (by simpa using h)
      simp only [List.take_succ_cons, octV, this]
      simp; omega
theorem octE_take {l : List Entry} {i : Nat} (h : i < l.length) : octE (l.take (i + 1)) = octE (l.take i) + octV (l.getD i default).L := by
  induction l generalizing i with
  | nil => simp at h
  | cons p r ih =>
    cases i with
    | zero => simp [octE]
    | succ i =>
      have := ih (i := i) (by simpa using h)
      simp only [List.take_succ_cons, octE, this]
      simp; omega
theorem numE_take {l : List Entry} {i : Nat} (h : i < l.length) : numE (l.take (i + 1)) = numE (l.take i) + ((l.getD i default).L.length : Int) := by
  induction l generalizing i with
  | nil => simp at h
  | cons p r ih =>
    cases i with
    | zero => simp [numE]
    | succ i =>
      have := ih (i := i) (by simpa using h)
      simp only [List.take_succ_cons, numE, this]
      simp; omega

theorem index_Count (l : List Entry) : Pure Tryz.prog 126 [bD (dEntries l)] (.tup [bD (.int .i64 (IntKind.i64.wrap (numE l))), bD (.int .i64 (IntKind.i64.wrap (octE l)))]) := by
  refine pure_intro hT Tryz.func126 rfl (by kernel_rfl) rfl rfl fun X hX => ?_
  refine V_lenb (j := 0) rfl fun hlen _ => ?_
  simp only [List.length_map, maxLen] at hlen
  refine V_go (n := 1000) hT rfl ?_
  refine V_loop hX (fun (x : Nat × Int × Int) => ⟨[(12, [], dl (.int .i64 x.1)), (11, [], dl (.int .i64 l.length)), (10, [], dl (dEntries l)), (4, [], dl (.int .i64 x.2.1)), (5, [], dl (.int .i64 x.2.2)), (2, [], dl (.int .i64 0)), (3, [], dl (.int .i64 0))], [], 0, [], [], 37⟩)
    (fun x => x.1 ≤ l.length ∧ x.2.1 = IntKind.i64.wrap (numE (l.take x.1)) ∧ x.2.2 = IntKind.i64.wrap (octE (l.take x.1))) (fun x => l.length - x.1) (0, 0, 0) ?_ ⟨Nat.zero_le _, by simp only [List.take_zero, numE]; decide, by simp only [List.take_zero, octE]; decide⟩ fun x hx => ?_
  · exact ghost_of [] rfl rfl rfl rfl rfl ⟨⟨rfl, rfl⟩, ⟨rfl, congrArg (fun (n : Nat) => some (([] : Path), dl (.int .i64 n))) (List.length_map ..)⟩, ⟨rfl, rfl⟩, ⟨rfl, rfl⟩, ⟨rfl, rfl⟩, ⟨rfl, rfl⟩, ⟨rfl, rfl⟩, trivial⟩ trivial
  obtain ⟨i, c, z⟩ := x
  obtain ⟨hi, hcn, hz⟩ := hx
  simp only at hi hz hcn
  dsimp only
  refine V_go (n := 1000) hT rfl ?_
  refine V_cond rfl (fun hlt => ?_) fun hge => ?_
  · have hlt' : i < l.length := by simpa using hlt
    have hw := i64_succ (n := i) (by omega)
    refine V_go (n := 1000) hT rfl ?_
    refine VL_Y (n := 1000) hT (yl_indexAddr (n := i) (cs := eEntry (l.getD i default)) hT rfl rfl rfl rfl rfl rfl rfl (get_map hlt')) rfl rfl rfl ?_
    generalize hu : l.getD i default = u
    refine V_lenb (j := 22) rfl fun hlen2 _ => ?_
    simp only [List.length_map, maxLen] at hlen2
    refine V_loop hX (fun (y : Nat × Int) => ⟨[(24, [], dl (.int .i64 y.1)), (23, [], dl (.int .i64 u.L.length)), (22, [], dl (dVersions u.L)), (12, [], dl (.int .i64 i)), (11, [], dl (.int .i64 l.length)), (10, [], dl (dEntries l)), (4, [], dl (.int .i64 (IntKind.i64.wrap (c + (u.L.length : Int))))), (5, [], dl (.int .i64 y.2)), (2, [], dl (.int .i64 0)), (3, [], dl (.int .i64 0))], [], 0, [], [], 37⟩)
      (fun y => y.1 ≤ u.L.length ∧ y.2 = IntKind.i64.wrap (octE (l.take i) + octV (u.L.take y.1))) (fun y => u.L.length - y.1) (0, z) ?_ ⟨Nat.zero_le _, by simp [octV, hz]⟩ fun y hy => ?_
    · exact ghost_of [] rfl rfl rfl rfl rfl ⟨⟨rfl, rfl⟩, ⟨rfl, congrArg (fun (n : Nat) => some (([] : Path), dl (.int .i64 n))) (List.length_map ..)⟩, ⟨rfl, rfl⟩, ⟨rfl, rfl⟩, ⟨rfl, rfl⟩, ⟨rfl, rfl⟩, ⟨rfl, congrArg (fun (n : Nat) => some (([] : Path), dl (.int .i64 (IntKind.i64.wrap (c + (n : Int)))))) (List.length_map ..)⟩, ⟨rfl, rfl⟩, ⟨rfl, rfl⟩, ⟨rfl, rfl⟩, trivial⟩ trivial
    obtain ⟨j, w⟩ := y
    obtain ⟨hj, hwv⟩ := hy
    simp only at hj hwv
    dsimp only
    refine V_go (n := 1000) hT rfl ?_
    refine V_cond rfl (fun hlt2 => ?_) fun hge2 => ?_
    · have hlt2' : j < u.L.length := by simpa using hlt2
      have hw2 := i64_succ (n := j) (by omega)
      refine V_go (n := 1000) hT rfl ?_
      refine VL_Y (n := 1000) hT (yl_indexAddr (n := j) (cs := eVersion (u.L.getD j default)) hT rfl rfl rfl rfl rfl rfl rfl (get_map hlt2')) rfl rfl rfl ?_
      refine ⟨(j + 1, IntKind.i64.wrap (w + ((u.L.getD j default).Data.size : Int))), ⟨hlt2', ?_⟩, by simp only; omega, ?_⟩
      · simp only
        rw [hwv, wrap_add, octV_take hlt2', Int.add_assoc]
      · exact ghost_of [] rfl rfl rfl rfl rfl ⟨⟨rfl, congrArg (fun z => some (([] : Path), dl (.int .i64 z))) hw2⟩, ⟨rfl, rfl⟩, ⟨rfl, rfl⟩, ⟨rfl, rfl⟩, ⟨rfl, rfl⟩, ⟨rfl, rfl⟩, ⟨rfl, rfl⟩, ⟨rfl, rfl⟩, ⟨rfl, rfl⟩, ⟨rfl, rfl⟩, trivial⟩ trivial
    · refine V_go (n := 1000) hT rfl ?_
      have hj0 : j = u.L.length := by simp at hge2; omega
      refine ⟨(i + 1, IntKind.i64.wrap (c + (u.L.length : Int)), w), ⟨hlt', ?_, ?_⟩, by simp only; omega, ?_⟩
      · simp only
        rw [hcn, wrap_add, numE_take hlt', hu]
      · simp only
        rw [hwv, octE_take hlt', hu, hj0, List.take_length]
      · exact ghost_of [] rfl rfl rfl rfl rfl ⟨⟨rfl, congrArg (fun z => some (([] : Path), dl (.int .i64 z))) hw⟩, ⟨rfl, rfl⟩, ⟨rfl, rfl⟩, ⟨rfl, rfl⟩, ⟨rfl, rfl⟩, ⟨rfl, rfl⟩, ⟨rfl, rfl⟩, trivial⟩ trivial
  · refine V_go (n := 1000) hT rfl ?_
    refine endsP rfl ?_
    have hi0 : i = l.length := by simp at hge; omega
    rw [hcn, hz, hi0, List.take_length]; exact WkA.refl _

def octB (b : Bucket) : Int := octE b.L + octU b.Up
theorem bucket_octets (b : Bucket) : Pure Tryz.prog 69 [bBucket b] (dl (.int .i64 (IntKind.i64.wrap (octB b)))) := by
  refine pure_intro hT Tryz.func69 rfl (by kernel_rfl) rfl rfl fun X hX => ?_
  refine V_go (n := 1000) hT rfl ?_
  refine VL_Y (n := 1000) hT (yl_pure (index_Count b.L) rfl rfl rfl) rfl rfl rfl ?_
  refine VL_Y (n := 1000) hT (yl_pure (parts_Octets b.Up) rfl rfl rfl) rfl rfl rfl ?_
  refine endsP rfl ?_
  have : IntKind.i64.wrap (octB b) = IntKind.i64.wrap (IntKind.i64.wrap (octE b.L) + IntKind.i64.wrap (octU b.Up)) := by
    unfold octB
    rw [wrap_add, Int.add_comm (octE b.L) (IntKind.i64.wrap _), wrap_add, Int.add_comm]
  rw [this]; exact WkA.refl _

end Go.Cel

set_option linter.unusedVariables false
set_option maxRecDepth 100000
namespace Go.Cel
open Go.Proofs Go.IntWalk

def far (b : Bucket) (v : Version) : Bool := decide (b.Last < v.ID) || (b.State == 0 && v.ID != 0)
theorem bucket_Check1 (b : Bucket) (v : Version) : Pure Tryz.prog 70 [bVersion v, bD (.eptr (eBucket b))] (dl (.bool (far b v))) := by
  refine pure_intro hT Tryz.func70 rfl (by kernel_rfl) rfl rfl fun X _ => ?_
  refine V_go (n := 1000) hT rfl ?_
  exact endsP rfl (WkA.refl _)
theorem bucket_Check2 (b : Bucket) (u : Upload) : Pure Tryz.prog 73 [bUpload u, bD (.eptr (eBucket b))] (dl (.bool (decide (b.Last < u.ID)))) := by
  refine pure_intro hT Tryz.func73 rfl (by kernel_rfl) rfl rfl fun X _ => ?_
  refine V_go (n := 1000) hT rfl ?_
  exact endsP rfl (WkA.refl _)

def bOK1 (b : Bucket) : Bool := ((bucketOK b.Name && decide (0 ≤ b.State)) && decide (b.State ≤ 2)) && decide (b.Last ≤ 281474976710655)
def bOK2 (b : Bucket) : Bool := ((bOK1 b && errOf (indexOK b.L) == 0) && errOf (uploadsOK b.Up) == 0) && decide (IntKind.i64.wrap (octB b) ≤ 20000)
def bOK (b : Bucket) : Bool := (bOK2 b && b.L.all fun x => !x.L.any (far b)) && !b.Up.any fun u => decide (b.Last < u.ID)

theorem all_take {α : Type} [Inhabited α] {q : α → Bool} {l : List α} {i : Nat} (h : i < l.length) : (l.take (i + 1)).all q = ((l.take i).all q && q (l.getD i default)) := by
  rw [List.take_succ_eq_append_getElem h, List.all_append]
  simp [List.getD_eq_getElem?_getD, h]

theorem bucket_Check (b : Bucket) : Pure Tryz.prog 25 [bBucket b] (dl (.int .i64 (errOf (bOK b)))) := by
  refine pure_intro hT Tryz.func25 rfl (by kernel_rfl) rfl rfl fun X hX => ?_
  refine V_go (n := 1000) hT rfl ?_
  refine VL_ghost hX (ghost_freeze 0 rfl) ?_
  refine VL_Y (n := 1000) hT (yl_pure (name_Bucket b.Name) rfl rfl rfl) rfl rfl rfl ?_
  refine VL_Yp (n := 1000) hT rfl (yl_pure (index_Check b.L) rfl rfl rfl) rfl rfl ?_
  refine VL_Yp (n := 1000) hT rfl (yl_pure (parts_Check b.Up) rfl rfl rfl) rfl rfl ?_
  refine VL_Yp (n := 1000) hT rfl (yl_pure (bucket_octets b) rfl rfl rfl) rfl rfl ?_
  refine V_lenb (j := 44) rfl fun hlen _ => ?_
  simp only [List.length_map, maxLen] at hlen
  refine V_loop hX (fun (x : Nat × Bool) => ⟨[(46, [], dl (.int .i64 x.1)), (45, [], dl (.int .i64 b.L.length)), (44, [], dl (dEntries b.L)), (3, [], dl (.bool x.2)), (1, [], dl (.eptr (eBucket b))), (2, [], dl (.int .i64 0))], [], 1, [], [], 70⟩)
    (fun x => x.1 ≤ b.L.length ∧ x.2 = (bOK2 b && (b.L.take x.1).all fun x => !x.L.any (far b))) (fun x => b.L.length - x.1) (0, bOK2 b) ?_ ⟨Nat.zero_le _, by simp⟩ fun x hx => ?_
  · exact ghost_of [] rfl rfl rfl rfl rfl ⟨⟨rfl, rfl⟩, ⟨rfl, congrArg (fun (n : Nat) => some (([] : Path), dl (.int .i64 n))) (List.length_map ..)⟩, ⟨rfl, rfl⟩, ⟨rfl, rfl⟩, ⟨rfl, rfl⟩, ⟨rfl, rfl⟩, trivial⟩ trivial
  obtain ⟨i, ok⟩ := x
  obtain ⟨hi, hok⟩ := hx
  simp only at hi hok
  dsimp only
  refine V_go (n := 1000) hT rfl ?_
  refine V_cond rfl (fun hlt => ?_) fun hge => ?_
  · have hlt' : i < b.L.length := by simpa using hlt
    have hw := i64_succ (n := i) (by omega)
    refine V_go (n := 1000) hT rfl ?_
    refine VL_Y (n := 1000) hT (yl_indexAddr (n := i) (cs := eEntry (b.L.getD i default)) hT rfl rfl rfl rfl rfl rfl rfl (get_map hlt')) rfl rfl rfl ?_
    refine VL_Y (n := 1000) hT (yl_makeFunc rfl rfl rfl rfl) rfl rfl rfl ?_
    refine VL_Yp (n := 1000) hT rfl (yl_pure (has_Version (f := 70) (first := []) (caps := [.eptr (eBucket b)]) (fun x => bucket_Check1 b x) (b.L.getD i default).L) rfl rfl rfl) rfl rfl ?_
    refine ⟨(i + 1, ok && !((b.L.getD i default).L.any (far b))), ⟨hlt', ?_⟩, by simp only; omega, ?_⟩
    · simp only
      rw [hok, all_take hlt', Bool.and_assoc]
    · exact ghost_of [] rfl rfl rfl rfl rfl ⟨⟨rfl, congrArg (fun z => some (([] : Path), dl (.int .i64 z))) hw⟩, ⟨rfl, rfl⟩, ⟨rfl, rfl⟩, ⟨rfl, rfl⟩, ⟨rfl, rfl⟩, ⟨rfl, rfl⟩, trivial⟩ trivial
  · refine V_go (n := 1000) hT rfl ?_
    have hi0 : i = b.L.length := by simp at hge; omega
    rw [hi0, List.take_length] at hok
    refine VL_Yp (n := 1000) hT rfl (yl_makeFunc rfl rfl rfl rfl) rfl rfl ?_
    refine VL_Yp (n := 1000) hT rfl (yl_pure (has_Upload (f := 73) (first := []) (caps := [.eptr (eBucket b)]) (fun x => bucket_Check2 b x) b.Up) rfl rfl rfl) rfl rfl ?_
    have hb : bOK b = (ok && !(b.Up.any fun u => decide (b.Last < u.ID))) := by unfold bOK; rw [hok]
    refine V_cond rfl (fun h1 => ?_) fun h1 => ?_
    · refine V_go (n := 1000) hT rfl ?_
      refine endsP rfl ?_
      have : bOK b = false := by rw [hb]; simpa only [Bool.not_eq_true'] using h1
      rw [this]; exact WkA.refl _
    · refine V_go (n := 1000) hT rfl ?_
      refine endsP rfl ?_
      have : bOK b = true := by rw [hb]; simpa only [Bool.not_eq_false'] using h1
      rw [this]; exact WkA.refl _

end Go.Cel

set_option linter.unusedVariables false
set_option maxRecDepth 100000
namespace Go.Cel
open Go.Proofs Go.IntWalk

theorem clone_Version (l : List Version) : Con Tryz.prog 105 [] 0 [bD (dVersions l)] fun r o nx => r = .b (.l (.orow 0)) ∧ o = [(0, .row 47 (l.map eVersion))] ∧ nx = 1 := by
  refine con_intro hT Tryz.func105 rfl (by kernel_rfl) rfl fun X hX => ?_
  refine V_lenb (j := 0) rfl fun hlen hby => ?_
  refine V_go (n := 1000) hT rfl ?_
  refine VL_YE (yle_nil hT rfl rfl rfl rfl) rfl ?_
  rintro v ⟨b, hb, rfl⟩
  refine ⟨_, rfl, VL_go (n := 1000) hT rfl ?_⟩
  refine V_cond rfl (fun h1 => ?_) fun h1 => ?_
  · refine V_go (n := 1000) hT rfl ?_
    refine ends_ghost (ghost_nilrow 2 47 rfl rfl) ⟨.inr rfl, _, _, [(0, .row 47 [])], Ghost.refl _ _, rfl, fun x hx => hx, rfl, ?_, rfl⟩
    rw [hb h1]
  · refine V_go (n := 1000) hT rfl ?_
    refine VL_T (n := 1000) hT 1 rfl (tl_build0 (n := 0) hT rfl rfl rfl rfl rfl) rfl rfl rfl ?_
    refine VL_T (n := 1000) hT 2 rfl (tl_append (n := 1) hT rfl rfl rfl rfl rfl rfl rfl rfl rfl rfl rfl ?_ ?_) rfl rfl rfl ?_
    · have h2 : Tryz.prog.bytesOf 47 = (T 47).bytes := (hT 47 rfl).bytes
      rw [h2] at hby
      simpa using hby
    · simpa using hlen
    refine ends_ghost (ghost_of [(0, 1)] (R := [(2, [], .b (.l (.orow 0)))]) (O := [(0, .row 47 (l.map eVersion))]) (n1 := 1) rfl rfl rfl rfl rfl ⟨⟨rfl, rfl⟩, trivial⟩ ⟨rfl, trivial⟩) ⟨.inr rfl, _, _, [(0, .row 47 (l.map eVersion))], Ghost.refl _ _, rfl, fun x hx => hx, rfl, rfl, rfl⟩

theorem clone_Upload (l : List Upload) : Con Tryz.prog 79 [] 0 [bD (dUploads l)] fun r o nx => r = .b (.l (.orow 0)) ∧ o = [(0, .row 101 (l.map eUpload))] ∧ nx = 1 := by
  refine con_intro hT Tryz.func79 rfl (by kernel_rfl) rfl fun X hX => ?_
  refine V_lenb (j := 0) rfl fun hlen hby => ?_
  refine V_go (n := 1000) hT rfl ?_
  refine VL_YE (yle_nil hT rfl rfl rfl rfl) rfl ?_
  rintro v ⟨b, hb, rfl⟩
  refine ⟨_, rfl, VL_go (n := 1000) hT rfl ?_⟩
  refine V_cond rfl (fun h1 => ?_) fun h1 => ?_
  · refine V_go (n := 1000) hT rfl ?_
    refine ends_ghost (ghost_nilrow 2 101 rfl rfl) ⟨.inr rfl, _, _, [(0, .row 101 [])], Ghost.refl _ _, rfl, fun x hx => hx, rfl, ?_, rfl⟩
    rw [hb h1]
  · refine V_go (n := 1000) hT rfl ?_
    refine VL_T (n := 1000) hT 1 rfl (tl_build0 (n := 0) hT rfl rfl rfl rfl rfl) rfl rfl rfl ?_
    refine VL_T (n := 1000) hT 2 rfl (tl_append (n := 1) hT rfl rfl rfl rfl rfl rfl rfl rfl rfl rfl rfl ?_ ?_) rfl rfl rfl ?_
    · have h2 : Tryz.prog.bytesOf 101 = (T 101).bytes := (hT 101 rfl).bytes
      rw [h2] at hby
      simpa using hby
    · simpa using hlen
    refine ends_ghost (ghost_of [(0, 1)] (R := [(2, [], .b (.l (.orow 0)))]) (O := [(0, .row 101 (l.map eUpload))]) (n1 := 1) rfl rfl rfl rfl rfl ⟨⟨rfl, rfl⟩, trivial⟩ ⟨rfl, trivial⟩) ⟨.inr rfl, _, _, [(0, .row 101 (l.map eUpload))], Ghost.refl _ _, rfl, fun x hx => hx, rfl, rfl, rfl⟩

theorem clone_Part (l : List Part) : Con Tryz.prog 91 [] 0 [bD (dParts l)] fun r o nx => r = .b (.l (.orow 0)) ∧ o = [(0, .row 40 (l.map ePart))] ∧ nx = 1 := by
  refine con_intro hT Tryz.func91 rfl (by kernel_rfl) rfl fun X hX => ?_
  refine V_lenb (j := 0) rfl fun hlen hby => ?_
  refine V_go (n := 1000) hT rfl ?_
  refine VL_YE (yle_nil hT rfl rfl rfl rfl) rfl ?_
  rintro v ⟨b, hb, rfl⟩
  refine ⟨_, rfl, VL_go (n := 1000) hT rfl ?_⟩
  refine V_cond rfl (fun h1 => ?_) fun h1 => ?_
  · refine V_go (n := 1000) hT rfl ?_
    refine ends_ghost (ghost_nilrow 2 40 rfl rfl) ⟨.inr rfl, _, _, [(0, .row 40 [])], Ghost.refl _ _, rfl, fun x hx => hx, rfl, ?_, rfl⟩
    rw [hb h1]
  · refine V_go (n := 1000) hT rfl ?_
    refine VL_T (n := 1000) hT 1 rfl (tl_build0 (n := 0) hT rfl rfl rfl rfl rfl) rfl rfl rfl ?_
    refine VL_T (n := 1000) hT 2 rfl (tl_append (n := 1) hT rfl rfl rfl rfl rfl rfl rfl rfl rfl rfl rfl ?_ ?_) rfl rfl rfl ?_
    · have h2 : Tryz.prog.bytesOf 40 = (T 40).bytes := (hT 40 rfl).bytes
      rw [h2] at hby
      simpa using hby
    · simpa using hlen
    refine ends_ghost (ghost_of [(0, 1)] (R := [(2, [], .b (.l (.orow 0)))]) (O := [(0, .row 40 (l.map ePart))]) (n1 := 1) rfl rfl rfl rfl rfl ⟨⟨rfl, rfl⟩, trivial⟩ ⟨rfl, trivial⟩) ⟨.inr rfl, _, _, [(0, .row 40 (l.map ePart))], Ghost.refl _ _, rfl, fun x hx => hx, rfl, rfl, rfl⟩

theorem clone_Versions (l : List Version) : Con Tryz.prog 150 [] 0 [bD (dVersions l)] fun r o nx => r = .b (.l (.orow 0)) ∧ o = [(0, .row 47 (l.map eVersion))] ∧ nx = 1 := by
  refine con_intro hT Tryz.func150 rfl (by kernel_rfl) rfl fun X hX => ?_
  refine V_lenb (j := 0) rfl fun hlen hby => ?_
  refine V_go (n := 1000) hT rfl ?_
  refine VL_YE (yle_nil hT rfl rfl rfl rfl) rfl ?_
  rintro v ⟨b, hb, rfl⟩
  refine ⟨_, rfl, VL_go (n := 1000) hT rfl ?_⟩
  refine V_cond rfl (fun h1 => ?_) fun h1 => ?_
  · refine V_go (n := 1000) hT rfl ?_
    refine ends_ghost (ghost_nilrow 2 47 rfl rfl) ⟨.inr rfl, _, _, [(0, .row 47 [])], Ghost.refl _ _, rfl, fun x hx => hx, rfl, ?_, rfl⟩
    rw [hb h1]
  · refine V_go (n := 1000) hT rfl ?_
    refine VL_T (n := 1000) hT 1 rfl (tl_build0 (n := 0) hT rfl rfl rfl rfl rfl) rfl rfl rfl ?_
    refine VL_T (n := 1000) hT 2 rfl (tl_append (n := 1) hT rfl rfl rfl rfl rfl rfl rfl rfl rfl rfl rfl ?_ ?_) rfl rfl rfl ?_
    · have h2 : Tryz.prog.bytesOf 47 = (T 47).bytes := (hT 47 rfl).bytes
      rw [h2] at hby
      simpa using hby
    · simpa using hlen
    refine ends_ghost (ghost_of [(0, 1)] (R := [(2, [], .b (.l (.orow 0)))]) (O := [(0, .row 47 (l.map eVersion))]) (n1 := 1) rfl rfl rfl rfl rfl ⟨⟨rfl, rfl⟩, trivial⟩ ⟨rfl, trivial⟩) ⟨.inr rfl, _, _, [(0, .row 47 (l.map eVersion))], Ghost.refl _ _, rfl, fun x hx => hx, rfl, rfl, rfl⟩

end Go.Cel

set_option linter.unusedVariables false
set_option maxRecDepth 100000
namespace Go.Cel
open Go.Proofs Go.IntWalk

def emptyB (b : Bucket) : Bool := (b.L.length : Int) == 0 && (b.Up.length : Int) == 0
theorem bucket_Empty (b : Bucket) : Pure Tryz.prog 41 [bBucket b] (dl (.bool (emptyB b))) := by
  refine pure_intro hT Tryz.func41 rfl (by kernel_rfl) rfl rfl fun X _ => ?_
  refine V_go (n := 1000) hT rfl ?_
  refine endsP rfl ?_
  have : emptyB b = (((b.L.map eEntry).length : Int) == 0 && ((b.Up.map eUpload).length : Int) == 0) := by
    unfold emptyB; rw [List.length_map, List.length_map]
  rw [this]; exact WkA.refl _

/-- what Turn tells. -/
def turnB (b : Bucket) (state : Int) : Bucket × Int :=
  if ((errOf (bOK b) != 0 || decide (state < 0)) || decide (2 < state)) then (b, 1)
  else if (state == 0 && b.State != 0) then (b, 8)
  else ({ b with State := state }, 0)
abbrev rBE (x : Bucket × Int) : A := .tup [bBucket x.1, bD (.int .i64 x.2)]
theorem bucket_Turn (b : Bucket) (state : Int) : Pure Tryz.prog 27 [bBucket b, bD (.int .i64 state)] (rBE (turnB b state)) := by
  refine pure_intro hT Tryz.func27 rfl (by kernel_rfl) rfl rfl fun X hX => ?_
  refine V_go (n := 1000) hT rfl ?_
  refine VL_Y (n := 1000) hT (yl_pure (bucket_Check b) rfl rfl rfl) rfl rfl rfl ?_
  refine V_cond rfl (fun h1 => ?_) fun h1 => ?_
  · refine V_go (n := 1000) hT rfl ?_
    refine endsP rfl ?_
    have : turnB b state = (b, 1) := by unfold turnB; rw [if_pos h1]
    rw [this]; exact WkA.refl _
  · refine V_go (n := 1000) hT rfl ?_
    refine V_cond rfl (fun h2 => ?_) fun h2 => ?_
    · refine V_go (n := 1000) hT rfl ?_
      refine endsP rfl ?_
      have : turnB b state = (b, 8) := by unfold turnB; rw [if_neg (by rw [h1]; simp), if_pos h2]
      rw [this]; exact WkA.refl _
    · refine V_go (n := 1000) hT rfl ?_
      refine endsP rfl ?_
      have : turnB b state = ({ b with State := state }, 0) := by unfold turnB; rw [if_neg (by rw [h1]; simp), if_neg (by rw [h2]; simp)]
      rw [this]; exact WkA.refl _

end Go.Cel

set_option linter.unusedVariables false
set_option maxRecDepth 100000
namespace Go.Cel
open Go.Proofs Go.IntWalk

/-- a bucket at work: its cells. -/
abbrev cWork (b : Bucket) (e : Int) : List L := [.d (.str b.Name), .d (.int .i64 b.State), .d (dEntries b.L), .d (dUploads b.Up), .d (.int .u64 b.Last), .d (.int .i64 e)]
abbrev oWork (b : Bucket) (e : Int) : List (Nat × Blk) := [(0, .cells (cWork b e) 87)]
def noE (e : Int) (wrong : Bool) (x : Int) : Int := if (wrong && e == 0) then x else e

theorem work_no (b : Bucket) (e : Int) (wrong : Bool) (x : Int) : Con Tryz.prog 45 (oWork b e) 1 [.l (.ptr 0 0), bD (.bool wrong), bD (.int .i64 x)] fun r o nx => r = .tup [] ∧ o = oWork b (noE e wrong x) ∧ nx = 1 := by
  refine con_intro hT Tryz.func45 rfl (by kernel_rfl) rfl fun X hX => ?_
  refine V_go (n := 1000) hT rfl ?_
  refine V_cond rfl (fun h1 => ?_) fun h1 => ?_
  · refine V_go (n := 1000) hT rfl ?_
    have : noE e wrong x = x := by unfold noE; rw [if_pos h1]
    rw [this]
    exact ⟨.inl rfl, _, _, oWork b x, Ghost.refl _ _, rfl, fun x hx => hx, rfl, rfl, rfl⟩
  · refine V_go (n := 1000) hT rfl ?_
    have : noE e wrong x = e := by unfold noE; rw [if_neg (by rw [h1]; simp)]
    rw [this]
    exact ⟨.inl rfl, _, _, oWork b e, Ghost.refl _ _, rfl, fun x hx => hx, rfl, rfl, rfl⟩

theorem work_next (b : Bucket) (e : Int) : Con Tryz.prog 33 (oWork b e) 1 [.l (.ptr 0 0)] fun r o nx => r = dl (.int .u64 (IntKind.u64.wrap (b.Last + 1))) ∧ o = oWork { b with Last := IntKind.u64.wrap (b.Last + 1) } (noE e (decide (281474976710655 ≤ b.Last)) 6) ∧ nx = 1 := by
  refine con_intro hT Tryz.func33 rfl (by kernel_rfl) rfl fun X hX => ?_
  refine V_go (n := 1000) hT rfl ?_
  refine VL_T (n := 1000) hT 1 rfl (tl_call [(0, 0)] [] (work_no b e (decide (281474976710655 ≤ b.Last)) 6) rfl rfl rfl rfl ⟨rfl, trivial⟩ rfl (fun i hi => ⟨_, by cases i with | zero => rfl | succ i => omega⟩) rfl rfl rfl rfl) rfl rfl rfl ?_
  exact ⟨.inr rfl, _, _, oWork { b with Last := IntKind.u64.wrap (b.Last + 1) } (noE e (decide (281474976710655 ≤ b.Last)) 6), Ghost.refl _ _, rfl, fun x hx => hx, rfl, rfl, rfl⟩

def openE (b : Bucket) (key : ByteArray) : Int := noE 0 (errOf (bOK b) != 0 || !keyOK key) 1
theorem bucket_open (b : Bucket) (key : ByteArray) : Con Tryz.prog 32 [] 0 [bBucket b, bD (.str key)] fun r o nx => r = .b (.l (.ptr 0 0)) ∧ o = oWork b (openE b key) ∧ nx = 1 := by
  refine con_intro hT Tryz.func32 rfl (by kernel_rfl) rfl fun X hX => ?_
  refine V_go (n := 1000) hT rfl ?_
  refine VL_Y (n := 1000) hT (yl_pure (bucket_Check b) rfl rfl rfl) rfl rfl rfl ?_
  refine VL_Yp (n := 1000) hT rfl (yl_pure (name_Key key) rfl rfl rfl) rfl rfl ?_
  refine VL_T (n := 1000) hT 2 rfl (tl_call [(0, 1)] [] (work_no b 0 (errOf (bOK b) != 0 || !keyOK key) 1) rfl rfl rfl rfl ⟨rfl, trivial⟩ rfl (fun i hi => ⟨_, by cases i with | zero => rfl | succ i => omega⟩) rfl rfl rfl rfl) rfl rfl rfl ?_
  refine ends_ghost (ghost_of [(0, 1)] (R := [(4, [], .b (.l (.ptr 0 0)))]) (O := oWork b (openE b key)) (n1 := 1) rfl rfl rfl rfl rfl ⟨⟨rfl, rfl⟩, trivial⟩ ⟨rfl, trivial⟩) ⟨.inr rfl, _, _, oWork b (openE b key), Ghost.refl _ _, rfl, fun x hx => hx, rfl, rfl, rfl⟩

end Go.Cel

set_option linter.unusedVariables false
set_option maxRecDepth 100000
namespace Go.Cel
open Go.Proofs Go.IntWalk

abbrev rVE (x : Version × Int) : A := .tup [bVersion x.1, bD (.int .i64 x.2)]
def noV : Version := ⟨0, empty, false, 0⟩
/-- the version in a place. -/
def atV (l : List Version) (i : Int) : Version × Int :=
  if errOf (chainOK l) != 0 then (noV, 1)
  else if (decide (i < 0) || decide ((l.length : Int) ≤ i)) then (noV, 4)
  else if (l.getD i.toNat default).Mark then (l.getD i.toNat default, 13) else (l.getD i.toNat default, 0)

theorem chain_at (l : List Version) (i : Int) : Pure Tryz.prog 103 [bD (dVersions l), bD (.int .i64 i)] (rVE (atV l i)) := by
  refine pure_intro hT Tryz.func103 rfl (by kernel_rfl) rfl rfl fun X hX => ?_
  refine V_go (n := 1000) hT rfl ?_
  refine VL_Y (n := 1000) hT (yl_pure (chain_Check l) rfl rfl rfl) rfl rfl rfl ?_
  refine V_cond rfl (fun h1 => ?_) fun h1 => ?_
  · refine V_go (n := 1000) hT rfl ?_
    refine endsP rfl ?_
    have : atV l i = (noV, 1) := by unfold atV; rw [if_pos h1]
    rw [this]; exact WkA.refl _
  · refine V_go (n := 1000) hT rfl ?_
    refine V_cond rfl (fun h2 => ?_) fun h2 => ?_
    · refine V_go (n := 1000) hT rfl ?_
      refine endsP rfl ?_
      rw [List.length_map] at h2
      have : atV l i = (noV, 4) := by unfold atV; rw [if_neg (by rw [h1]; simp), if_pos h2]
      rw [this]; exact WkA.refl _
    · rw [List.length_map] at h2
      have hi : 0 ≤ i ∧ i < l.length := by simp at h2; omega
      have hlt : i.toNat < l.length := by omega
      have hz : i = ((i.toNat : Nat) : Int) := by omega
      refine V_go (n := 1000) hT rfl ?_
      refine VL_Y (n := 1000) hT (yl_indexAddr (n := i.toNat) (cs := eVersion (l.getD i.toNat default)) hT rfl rfl rfl rfl rfl rfl hz (get_map hlt)) rfl rfl rfl ?_
      refine V_cond rfl (fun h3 => ?_) fun h3 => ?_
      · refine V_go (n := 1000) hT rfl ?_
        refine VL_Y (n := 1000) hT (yl_indexAddr (n := i.toNat) (cs := eVersion (l.getD i.toNat default)) hT rfl rfl rfl rfl rfl rfl hz (get_map hlt)) rfl rfl rfl ?_
        refine endsP rfl ?_
        have : atV l i = (l.getD i.toNat default, 13) := by unfold atV; rw [if_neg (by rw [h1]; simp), if_neg (by rw [h2]; simp), if_pos h3]
        rw [this]; exact WkA.refl _
      · refine V_go (n := 1000) hT rfl ?_
        refine VL_Y (n := 1000) hT (yl_indexAddr (n := i.toNat) (cs := eVersion (l.getD i.toNat default)) hT rfl rfl rfl rfl rfl rfl hz (get_map hlt)) rfl rfl rfl ?_
        refine endsP rfl ?_
        have : atV l i = (l.getD i.toNat default, 0) := by unfold atV; rw [if_neg (by rw [h1]; simp), if_neg (by rw [h2]; simp), if_neg (by rw [h3]; simp)]
        rw [this]; exact WkA.refl _

theorem chain_Get (l : List Version) : Pure Tryz.prog 48 [bD (dVersions l)] (rVE (atV l 0)) := by
  refine pure_intro hT Tryz.func48 rfl (by kernel_rfl) rfl rfl fun X hX => ?_
  refine V_go (n := 1000) hT rfl ?_
  refine VL_Y (n := 1000) hT (yl_pure (chain_at l 0) rfl rfl rfl) rfl rfl rfl ?_
  exact endsP rfl (WkA.refl _)

end Go.Cel

set_option linter.unusedVariables false
set_option maxRecDepth 100000
namespace Go.Cel
open Go.Proofs Go.IntWalk

theorem chain_find1 (id : Int) (v : Version) : Pure Tryz.prog 160 [bVersion v, bD (.eptr [.int .u64 id])] (dl (.bool (v.ID == id))) := by
  refine pure_intro hT Tryz.func160 rfl (by kernel_rfl) rfl rfl fun X _ => ?_
  refine V_go (n := 1000) hT rfl ?_
  exact endsP rfl (WkA.refl _)
theorem chain_without1 (id : Int) (v : Version) : Pure Tryz.prog 163 [bVersion v, bD (.eptr [.int .u64 id])] (dl (.bool (v.ID == id))) := by
  refine pure_intro hT Tryz.func163 rfl (by kernel_rfl) rfl rfl fun X _ => ?_
  refine V_go (n := 1000) hT rfl ?_
  exact endsP rfl (WkA.refl _)

abbrev findV (l : List Version) (id : Int) : Int := idxOf (fun v : Version => v.ID == id) l
theorem chain_find (l : List Version) (id : Int) : Pure Tryz.prog 130 [bD (dVersions l), bD (.int .u64 id)] (dl (.int .i64 (findV l id))) := by
  refine pure_intro hT Tryz.func130 rfl (by kernel_rfl) rfl rfl fun X hX => ?_
  refine V_go (n := 1000) hT rfl ?_
  refine VL_ghost hX (ghost_freeze 0 rfl) ?_
  refine VL_Y (n := 1000) hT (yl_makeFunc rfl rfl rfl rfl) rfl rfl rfl ?_
  refine VL_Y (n := 1000) hT (yl_pure (idx_Versions (f := 160) (first := []) (caps := [.eptr [.int .u64 id]]) (fun x => chain_find1 id x) l) rfl rfl rfl) rfl rfl rfl ?_
  exact endsP rfl (WkA.refl _)

theorem chain_Find (l : List Version) (id : Int) : Pure Tryz.prog 74 [bD (dVersions l), bD (.int .u64 id)] (rVE (atV l (findV l id))) := by
  refine pure_intro hT Tryz.func74 rfl (by kernel_rfl) rfl rfl fun X hX => ?_
  refine V_go (n := 1000) hT rfl ?_
  refine VL_Y (n := 1000) hT (yl_pure (chain_find l id) rfl rfl rfl) rfl rfl rfl ?_
  refine VL_Y (n := 1000) hT (yl_pure (chain_at l (findV l id)) rfl rfl rfl) rfl rfl rfl ?_
  exact endsP rfl (WkA.refl _)

theorem idxOf_neg {α : Type} {q : α → Bool} {l : List α} (h : (idxOf q l == -1) = true) : l.filter (fun x => !q x) = l := by
  unfold idxOf at h
  split at h
  · rename_i i _; simp at h
  · rename_i hn
    rw [List.findIdx?_eq_none_iff] at hn
    rw [List.filter_eq_self]
    intro x hx; simp [hn x hx]
theorem idxOf_pos {α : Type} [Inhabited α] {q : α → Bool} {l : List α} (h : (idxOf q l == -1) = false) : ∃ i : Nat, idxOf q l = (i : Int) ∧ i < l.length ∧ (l.take i).filter (fun x => !q x) = l.take i ∧ q (l.getD i default) = true := by
  unfold idxOf at h ⊢
  split at h
  · rename_i i hi
    rw [List.findIdx?_eq_some_iff_getElem] at hi
    obtain ⟨h1, h2, h3⟩ := hi
    refine ⟨i, by simp_all, h1, ?_, by simpa [List.getD_eq_getElem?_getD, h1] using h2⟩
    rw [List.filter_eq_self]
    intro x hx
    obtain ⟨j, hj, rfl⟩ := List.getElem_of_mem hx
    have hji : j < i := by simp at hj; omega
    have := h3 j hji
    simp; simpa using this
  · simp at h

theorem DeleteFunc_Versions {f : FuncId} {first caps : List D} {q : Version → Bool} (hq : ∀ x, Pure Tryz.prog f (first.map bD ++ ([bVersion x] ++ caps.map bD)) (dl (.bool (q x)))) (l : List Version) :
    Con Tryz.prog 162 [(0, .row 47 (l.map eVersion))] 1 [.l (.orow 0), bD (.fn f first caps)] fun r o nx => r = .b (.l (.orow 1)) ∧ o = [(1, .row 47 ((l.filter fun x => !q x).map eVersion))] ∧ nx = 2 := by
  refine con_intro hT Tryz.func162 rfl (by kernel_rfl) rfl fun X hX => ?_
  refine V_go (n := 1000) hT rfl ?_
  refine VL_Y (n := 1000) hT (Yl.lend 0 rfl rfl rfl (yl_pure (idx_Versions hq l) rfl rfl rfl) rfl) rfl rfl rfl ?_
  refine V_cond rfl (fun h1 => ?_) fun h1 => ?_
  · refine V_go (n := 1000) hT rfl ?_
    have hf := idxOf_neg h1
    refine ends_ghost (ghost_of [(0, 0), (1, 0)] (R := [(4, [], .b (.l (.orow 1)))]) (O := [(1, .row 47 (l.map eVersion))]) (n1 := 2) rfl rfl rfl rfl rfl ⟨⟨rfl, rfl⟩, trivial⟩ ⟨rfl, trivial⟩) ⟨.inr rfl, _, _, [(1, .row 47 (l.map eVersion))], Ghost.refl _ _, rfl, fun x hx => hx, rfl, ?_, rfl⟩
    rw [hf]
  · obtain ⟨i0, hi0, hlt0, hkeep, hq0⟩ := idxOf_pos h1
    refine V_go (n := 1000) hT rfl ?_
    rw [hi0]
    refine V_lenR 0 rfl fun hlen hby => ?_
    simp only [List.length_map, maxLen] at hlen
    have hw0 := i64_succ (n := i0) (by omega)
    refine V_loop hX (fun (x : Nat × Nat × List Version) => ⟨[(6, [], dl (.int .i64 x.2.1)), (5, [], dl (.int .i64 x.1)), (1, [], dl (.fn f first caps)), (0, [], .b (.l (.orow 0))), (4, [], dl .nilsl)], [(0, .row 47 (x.2.2.map eVersion))], 1, [], [], 42⟩)
      (fun x => x.1 < x.2.1 ∧ x.2.1 ≤ l.length ∧ x.2.2.length = l.length ∧ x.2.2.take x.1 = (l.take x.2.1).filter (fun x => !q x) ∧ x.2.2.drop x.2.1 = l.drop x.2.1) (fun x => l.length - x.2.1) (i0, i0 + 1, l) ?_ ⟨by simp, hlt0, rfl, ?_, rfl⟩ fun x hx => ?_
    · exact ghost_of [(0, 0)] rfl rfl rfl rfl rfl ⟨⟨rfl, congrArg (fun z => some (([] : Path), dl (.int .i64 z))) hw0⟩, ⟨rfl, rfl⟩, ⟨rfl, rfl⟩, ⟨rfl, rfl⟩, ⟨rfl, rfl⟩, trivial⟩ ⟨rfl, trivial⟩
    · simp only
      rw [List.take_succ_eq_append_getElem hlt0, List.filter_append, hkeep]
      have : q l[i0] = true := by simpa [List.getD_eq_getElem?_getD, hlt0] using hq0
      simp [this]
    obtain ⟨i, j, cur⟩ := x
    obtain ⟨hij, hj, hcl, hfront, hback⟩ := hx
    simp only at hij hj hcl hfront hback
    dsimp only
    refine V_go (n := 1000) hT rfl ?_
    refine V_cond rfl (fun hlt => ?_) fun hge => ?_
    · have hlt' : j < cur.length := by simpa using hlt
      have hwj := i64_succ (n := j) (by omega)
      have hwi := i64_succ (n := i) (by omega)
      refine V_go (n := 1000) hT rfl ?_
      refine VL_Y (n := 1000) hT (yl_indexAddrRow (n := j) hT rfl rfl rfl rfl rfl rfl rfl rfl (by simpa using hlt')) rfl rfl rfl ?_
      refine VL_Y (n := 1000) hT (yl_loadRow (cs := eVersion (cur.getD j default)) hT rfl rfl rfl rfl rfl rfl rfl (get_map hlt') rfl) rfl rfl rfl ?_
      refine VL_Y (n := 1000) hT (yl_pure (hq (cur.getD j default)) rfl rfl (noOwn_fn rfl)) rfl rfl rfl ?_
      have hcj : cur.getD j default = l.getD j default := by
        have := congrArg (fun z => z[0]?) hback
        simp only [List.getElem?_drop, Nat.add_zero] at this
        simp [List.getD_eq_getElem?_getD, this]
      have hdrop : ∀ m, j ≤ m → cur.drop m = l.drop m := fun m hm => by
        have := congrArg (List.drop (m - j)) hback
        simpa [List.drop_drop, show j + (m - j) = m by omega] using this
      have hlj : j < l.length := by omega
      have hgl : l[j] = l.getD j default := by simp [List.getD_eq_getElem?_getD, hlj]
      have hfil : (l.take (j + 1)).filter (fun x => !q x) = cur.take i ++ (if q (cur.getD j default) then [] else [cur.getD j default]) := by
        rw [List.take_succ_eq_append_getElem hlj, List.filter_append, hfront, hgl, hcj]
        cases hqq : q (l.getD j default) <;> simp only [List.filter_cons, List.filter_nil, hqq] <;> simp
      refine V_cond rfl (fun hb => ?_) fun hb => ?_
      · refine V_go (n := 1000) hT rfl ?_
        refine VL_Y (n := 1000) hT (yl_indexAddrRow (n := i) hT rfl rfl rfl rfl rfl rfl rfl rfl (by simp; omega)) rfl rfl rfl ?_
        refine VL_T (n := 1000) hT 2 rfl (tl_storeRow (cs := eVersion (cur.getD i default)) hT rfl rfl rfl rfl rfl rfl rfl rfl rfl rfl rfl (get_map (by omega))) rfl rfl rfl ?_
        have hq0 : q (cur.getD j default) = false := by simpa using hb
        refine ⟨(i + 1, j + 1, cur.set i (cur.getD j default)), ⟨by simp only; omega, by simp only; omega, by simp only [List.length_set]; exact hcl, ?_, ?_⟩, by simp only; omega, ?_⟩
        · simp only
          rw [hfil, hq0, List.take_succ_eq_append_getElem (by simp; omega), List.take_set, List.set_eq_of_length_le (by simp; omega)]
          simp
        · simp only
          rw [List.drop_set_of_lt (by omega)]
          exact hdrop _ (by omega)
        · refine ghost_of [(0, 0)] rfl rfl rfl rfl rfl ⟨⟨rfl, congrArg (fun z => some (([] : Path), dl (.int .i64 z))) hwj⟩, ⟨rfl, congrArg (fun z => some (([] : Path), dl (.int .i64 z))) hwi⟩, ⟨rfl, rfl⟩, ⟨rfl, rfl⟩, ⟨rfl, rfl⟩, trivial⟩ ⟨?_, trivial⟩
          show some (Blk.row 47 _) = some (Blk.row 47 _)
          congr 2
          rw [List.map_set]; rfl
      · refine V_go (n := 1000) hT rfl ?_
        have hq0 : q (cur.getD j default) = true := by simpa using hb
        refine ⟨(i, j + 1, cur), ⟨by simp only; omega, by simp only; omega, hcl, ?_, ?_⟩, by simp only; omega, ?_⟩
        · simp only
          rw [hfil, hq0]; simp
        · simp only
          exact hdrop _ (by omega)
        · exact ghost_of [(0, 0)] rfl rfl rfl rfl rfl ⟨⟨rfl, congrArg (fun z => some (([] : Path), dl (.int .i64 z))) hwj⟩, ⟨rfl, rfl⟩, ⟨rfl, rfl⟩, ⟨rfl, rfl⟩, ⟨rfl, rfl⟩, trivial⟩ ⟨rfl, trivial⟩
    · have hj0 : j = l.length := by simp at hge; omega
      refine V_go (n := 1000) hT rfl ?_
      refine VL_spread hT 0 4 rfl rfl rfl (fun c => rfl) fun c hc hcm => ?_
      have hcl' : (cur.map eVersion).length = cur.length := List.length_map ..
      have hel : (List.map some (cur.map eVersion) ++ List.replicate (c - (cur.map eVersion).length) none).length = c := by
        rw [List.length_append, List.length_map, List.length_replicate]; omega
      have htake : (splice i ((List.replicate (cur.length - i) (T 47).zero).map some) (List.map some (cur.map eVersion) ++ List.replicate (c - (cur.map eVersion).length) none)).take i = ((cur.take i).map eVersion).map some := by
        unfold splice
        rw [List.take_append_of_le_length (by rw [List.length_take, hel]; omega), List.take_take, Nat.min_self, List.take_append_of_le_length (by rw [List.length_map]; omega), ← List.map_take, ← List.map_take]
      refine VL_Y (n := 1000) hT (yl_sliceOsl (l := some (i : Int)) (h := none) hT i cur.length i cur.length rfl rfl rfl rfl rfl rfl rfl rfl rfl rfl (by simp) (by omega) (by rw [hel]; omega) (by omega) (by omega)) rfl rfl rfl ?_
      refine VL_T (n := 1000) hT 1 rfl (tl_clearOsl hT rfl rfl rfl rfl rfl rfl rfl rfl rfl rfl) rfl rfl rfl ?_
      refine VL_Y (n := 1000) hT (yl_sliceOsl (l := none) (h := some (i : Int)) hT 0 i 0 i rfl rfl rfl rfl rfl rfl rfl rfl rfl rfl rfl (by omega) ?_ rfl (by omega)) rfl rfl rfl ?_
      · rw [splice_length (by rw [List.length_map, List.length_replicate, hel]; omega), hel]; omega
      have hres : cur.take i = l.filter fun x => !q x := by rw [hfront, hj0, List.take_length]
      refine ends_ghost (ghost_close (fs := (cur.take i).map eVersion) hT 4 0 rfl rfl rfl htake ?_ ?_ rfl) ⟨.inr rfl, _, _, [(1, .row 47 ((cur.take i).map eVersion))], Ghost.refl _ _, rfl, fun x hx => hx, rfl, ?_, rfl⟩
      · rw [splice_length (by rw [List.length_map, List.length_replicate, hel]; omega), hel]; omega
      · have hb2 : Tryz.prog.bytesOf 47 = (T 47).bytes := (hT 47 rfl).bytes
        have hle : ((cur.take i).map eVersion).length ≤ (l.map eVersion).length := by simp; omega
        exact Nat.le_trans (Nat.mul_le_mul_right _ hle) (by rw [← hb2]; assumption)
      · rw [hres]

def dropV (l : List Version) (id : Int) : List Version := l.filter fun v => !(v.ID == id)
theorem chain_without (l : List Version) (id : Int) : Con Tryz.prog 133 [] 0 [bD (dVersions l), bD (.int .u64 id)] fun r o nx => r = .b (.l (.orow 0)) ∧ o = [(0, .row 47 ((dropV l id).map eVersion))] ∧ nx = 1 := by
  refine con_intro hT Tryz.func133 rfl (by kernel_rfl) rfl fun X hX => ?_
  refine V_go (n := 1000) hT rfl ?_
  refine VL_ghost hX (ghost_freeze 0 rfl) ?_
  refine VL_T (n := 1000) hT 2 rfl (tl_call [] [(0, 1)] (clone_Versions l) rfl rfl rfl rfl trivial rfl (fun i hi => absurd hi (Nat.not_lt_zero i)) rfl rfl rfl rfl) rfl rfl rfl ?_
  refine VL_Y (n := 1000) hT (yl_makeFunc rfl rfl rfl rfl) rfl rfl rfl ?_
  refine VL_T (n := 1000) hT 3 rfl (tl_call [(0, 1)] [(1, 2)] (DeleteFunc_Versions (f := 163) (first := []) (caps := [.eptr [.int .u64 id]]) (fun x => chain_without1 id x) l) rfl rfl rfl rfl ⟨rfl, trivial⟩ rfl (fun i hi => ⟨_, by cases i with | zero => rfl | succ i => omega⟩) rfl rfl rfl rfl) rfl rfl rfl ?_
  exact ends_ghost (ghost_of [(0, 2)] (R := [(4, [], .b (.l (.orow 0)))]) (O := [(0, .row 47 ((dropV l id).map eVersion))]) (n1 := 1) rfl rfl rfl rfl rfl ⟨⟨rfl, rfl⟩, trivial⟩ ⟨rfl, trivial⟩) ⟨.inr rfl, _, _, [(0, .row 47 ((dropV l id).map eVersion))], Ghost.refl _ _, rfl, fun x hx => hx, rfl, rfl, rfl⟩
end Go.Cel
