/- CxA: what the program's values stand for; the contracts of name. -/
import Derived.Test.YtflmcnpfeikoeaaGreatDoorK07
import Derived.Test.YtflmcnpfeikoeaaGreatDoorK10
import Derived.IntWalk
set_option linter.unusedVariables false
set_option maxRecDepth 100000
namespace Go.Cel
open Go.Proofs Go.IntWalk

structure Version where
  ID : Int
  Data : ByteArray
  Mark : Bool
  At : Int
  deriving DecidableEq
structure Entry where
  Key : ByteArray
  L : List Version
  deriving DecidableEq
structure Part where
  N : Int
  Data : ByteArray
  deriving DecidableEq
structure Upload where
  ID : Int
  Key : ByteArray
  L : List Part
  deriving DecidableEq
structure Bucket where
  Name : ByteArray
  State : Int
  L : List Entry
  Up : List Upload
  Last : Int
  deriving DecidableEq
structure Piece where
  N : Int
  Tag : Int
  deriving DecidableEq

abbrev empty : ByteArray := ⟨#[]⟩
instance : Inhabited Version := ⟨⟨0, empty, false, 0⟩⟩
instance : Inhabited Entry := ⟨⟨empty, []⟩⟩
instance : Inhabited Part := ⟨⟨0, empty⟩⟩
instance : Inhabited Upload := ⟨⟨0, empty, []⟩⟩
instance : Inhabited Bucket := ⟨⟨empty, 0, [], [], 0⟩⟩
instance : Inhabited Piece := ⟨⟨0, 0⟩⟩

abbrev eVersion (v : Version) : List D := [.int .u64 v.ID, .str v.Data, .bool v.Mark, .int .i64 v.At]
abbrev dVersions (l : List Version) : D := .seq 47 (l.map eVersion)
abbrev eEntry (x : Entry) : List D := [.str x.Key, dVersions x.L]
abbrev dEntries (l : List Entry) : D := .seq 56 (l.map eEntry)
abbrev ePart (p : Part) : List D := [.int .i64 p.N, .str p.Data]
abbrev dParts (l : List Part) : D := .seq 40 (l.map ePart)
abbrev eUpload (u : Upload) : List D := [.int .u64 u.ID, .str u.Key, dParts u.L]
abbrev dUploads (l : List Upload) : D := .seq 101 (l.map eUpload)
abbrev eBucket (b : Bucket) : List D := [.str b.Name, .int .i64 b.State, dEntries b.L, dUploads b.Up, .int .u64 b.Last]

/-- values for parameters. -/
abbrev bVersion (v : Version) : B := .agg [.d (.int .u64 v.ID), .d (.str v.Data), .d (.bool v.Mark), .d (.int .i64 v.At)]
abbrev bPart (p : Part) : B := .agg [.d (.int .i64 p.N), .d (.str p.Data)]
abbrev bUpload (u : Upload) : B := .agg [.d (.int .u64 u.ID), .d (.str u.Key), .d (dParts u.L)]
abbrev bBucket (b : Bucket) : B := .agg [.d (.str b.Name), .d (.int .i64 b.State), .d (dEntries b.L), .d (dUploads b.Up), .d (.int .u64 b.Last)]


theorem get_map {α : Type} [Inhabited α] {f : α → List D} {l : List α} {i : Nat} (h : i < l.length) : (l.map f)[i]? = some (f (l.getD i default)) := by
  simp [h, List.getD_eq_getElem?_getD]

/-- an octet of a text. -/
def bat (s : ByteArray) (i : Nat) : UInt8 := (s[i]?).getD 0
theorem bat_get {s : ByteArray} {i : Nat} (h : i < s.size) : s[i]? = some (bat s i) := by
  unfold bat
  rw [getElem?_pos s i h]; rfl

theorem i64_nat {n : Nat} (h : n ≤ 9223372036854775807) : IntKind.i64.wrap (n : Int) = (n : Int) := i64_in _ (by omega)
theorem i64_succ {n : Nat} (h : n < 9223372036854775807) : IntKind.i64.wrap ((n : Int) + 1) = ((n + 1 : Nat) : Int) := by
  rw [i64_in _ (by omega)]; simp

/-! name. -/
def plainC (c : UInt8) : Bool := decide (32 ≤ (c.toNat : Int)) && decide ((c.toNat : Int) ≤ 126)
theorem name_plain (c : UInt8) : Pure Tryz.prog 131 [bD (.int .u8 (c.toNat : Int))] (dl (.bool (plainC c))) := by
  refine pure_intro hT Tryz.func131 rfl (by kernel_rfl) rfl rfl fun X _ => ?_
  refine V_go (n := 1000) hT rfl ?_
  exact endsP rfl (WkA.refl _)

def wordC (c : UInt8) : Bool := (decide (97 ≤ (c.toNat : Int)) && decide ((c.toNat : Int) ≤ 122) || decide (48 ≤ (c.toNat : Int)) && decide ((c.toNat : Int) ≤ 57)) || (c.toNat : Int) == 45
theorem name_word (c : UInt8) : Pure Tryz.prog 124 [bD (.int .u8 (c.toNat : Int))] (dl (.bool (wordC c))) := by
  refine pure_intro hT Tryz.func124 rfl (by kernel_rfl) rfl rfl fun X _ => ?_
  refine V_go (n := 1000) hT rfl ?_
  exact endsP rfl (WkA.refl _)

def allC (q : UInt8 → Bool) (s : ByteArray) : Bool := (List.range s.size).all fun i => q (bat s i)
def kindIs (lo hi : Int) (q : UInt8 → Bool) (s : ByteArray) : Bool := !(decide ((s.size : Int) < lo) || decide (hi < (s.size : Int))) && allC q s

theorem name_is {f : FuncId} {q : UInt8 → Bool} (hq : ∀ c, Pure Tryz.prog f [bD (.int .u8 (UInt8.toNat c : Int))] (dl (.bool (q c)))) (lo hi : Int) (hhi : hi ≤ 1000000) (s : ByteArray) :
    Pure Tryz.prog 125 [.agg [.d (.int .i64 lo), .d (.int .i64 hi), .d (.fn f [] [])], bD (.str s)] (dl (.bool (kindIs lo hi q s))) := by
  refine pure_intro hT Tryz.func125 rfl (by kernel_rfl) rfl rfl fun X hX => ?_
  refine V_go (n := 1000) hT rfl ?_
  refine V_cond rfl (fun hc => ?_) fun hc => ?_
  · refine V_go (n := 1000) hT rfl ?_
    refine endsP rfl ?_
    have : kindIs lo hi q s = false := by unfold kindIs; simp [hc]
    rw [this]; exact WkA.refl _
  · have hsz : ¬ (hi < (s.size : Int)) := by simp at hc; omega
    refine V_go (n := 1000) hT rfl ?_
    refine V_loop hX (fun (i : Nat) => ⟨[(20, [], dl (.int .i64 i)), (19, [], dl (.int .i64 s.size)), (2, [], .b (.l (.ptr 0 0))), (1, [], dl (.str s)), (4, [], dl (.bool false))], [(0, .cells [.d (.int .i64 lo), .d (.int .i64 hi), .d (.fn f [] [])] 197)], 1, [], [], 31⟩)
      (fun i => i ≤ s.size ∧ ∀ j, j < i → q (bat s j) = true) (fun i => s.size - i) 0 ?_ ⟨Nat.zero_le _, fun j h => by omega⟩ fun i hi' => ?_
    · exact ghost_of [(0, 0)] rfl rfl rfl rfl rfl ⟨⟨rfl, rfl⟩, ⟨rfl, rfl⟩, ⟨rfl, rfl⟩, ⟨rfl, rfl⟩, ⟨rfl, rfl⟩, trivial⟩ ⟨rfl, trivial⟩
    refine V_go (n := 1000) hT rfl ?_
    refine V_cond rfl (fun hlt => ?_) fun hge => ?_
    · have hlt' : i < s.size := by simpa using hlt
      refine V_go (n := 1000) hT rfl ?_
      refine VD_start ?_
      refine VD_go hT rfl rfl ?_
      refine VD_Y hT rfl rfl rfl rfl (yl_index hT rfl rfl rfl rfl rfl rfl (bat_get hlt')) rfl rfl rfl ?_
      refine VD_Y hT rfl rfl rfl rfl (yl_pure (hq _) rfl rfl rfl) rfl rfl rfl ?_
      refine VD_end (n := 1000) hT rfl (by kernel_rfl) (by kernel_rfl) rfl rfl rfl ?_
      refine V_cond rfl (fun hb => ?_) fun hb => ?_
      · refine V_go (n := 1000) hT rfl ?_
        refine endsP rfl ?_
        have : kindIs lo hi q s = false := by
          unfold kindIs allC
          have : ((List.range s.size).all fun i => q (bat s i)) = false := by
            rw [List.all_eq_false]
            exact ⟨i, by simpa using hlt', by simpa using hb⟩
          rw [this]; simp
        rw [this]; exact WkA.refl _
      · refine V_go (n := 1000) hT rfl ?_
        refine ⟨i + 1, ⟨hlt', fun j hj => ?_⟩, by omega, ?_⟩
        · rcases Nat.lt_succ_iff_lt_or_eq.1 hj with h | rfl
          · exact hi'.2 j h
          · simpa using hb
        · have hw := i64_succ (n := i) (by omega)
          exact ghost_of [(0, 0)] rfl rfl rfl rfl rfl ⟨⟨rfl, congrArg (fun z => some (([] : Path), dl (.int .i64 z))) hw⟩, ⟨rfl, rfl⟩, ⟨rfl, rfl⟩, ⟨rfl, rfl⟩, ⟨rfl, rfl⟩, trivial⟩ ⟨rfl, trivial⟩
    · refine V_go (n := 1000) hT rfl ?_
      refine endsP rfl ?_
      have hi0 : i = s.size := by simp at hge; omega
      have : kindIs lo hi q s = true := by
        unfold kindIs allC
        rw [Bool.and_eq_true, Bool.not_eq_true']
        refine ⟨hc, ?_⟩
        rw [List.all_eq_true]
        intro j hj
        exact hi'.2 j (by simp at hj; omega)
      rw [this]; exact WkA.refl _

def keyOK (s : ByteArray) : Bool := kindIs 1 60 plainC s
theorem name_Key (s : ByteArray) : Pure Tryz.prog 77 [bD (.str s)] (dl (.bool (keyOK s))) := by
  refine pure_intro hT Tryz.func77 rfl (by kernel_rfl) rfl rfl fun X hX => ?_
  refine V_go (n := 1000) hT rfl ?_
  refine VL_Y (n := 1000) hT (yl_pure (name_is name_plain 1 60 (by decide) s) rfl rfl rfl) rfl rfl rfl ?_
  exact endsP rfl (WkA.refl _)

theorem and_left {a b : Bool} (h : (a && b) = true) : a = true := by cases a <;> simp_all
def bucketOK (s : ByteArray) : Bool := (kindIs 3 20 wordC s && ((bat s 0).toNat : Int) != 45) && ((bat s (s.size - 1)).toNat : Int) != 45
theorem name_Bucket (s : ByteArray) : Pure Tryz.prog 66 [bD (.str s)] (dl (.bool (bucketOK s))) := by
  refine pure_intro hT Tryz.func66 rfl (by kernel_rfl) rfl rfl fun X hX => ?_
  refine V_go (n := 1000) hT rfl ?_
  refine VL_Y (n := 1000) hT (yl_pure (name_is name_word 3 20 (by decide) s) rfl rfl rfl) rfl rfl rfl ?_
  have hs : kindIs 3 20 wordC s = true → 3 ≤ s.size ∧ s.size ≤ 20 := fun h => by
    unfold kindIs at h
    simp at h
    omega
  refine VL_Yp (n := 1000) hT rfl (Yl.given rfl fun h => yl_index (n := 0) (c := bat s 0) hT rfl rfl rfl rfl rfl rfl (bat_get (by have := hs h.1; omega))) rfl rfl ?_
  refine VL_Yp (n := 1000) hT rfl (Yl.given rfl fun h => yl_index (n := s.size - 1) (c := bat s (s.size - 1)) hT rfl rfl rfl rfl rfl ?_ (bat_get (by have := hs (and_left h.1); omega))) rfl rfl ?_
  · have := hs (and_left h.1)
    show IntKind.i64.wrap ((s.size : Int) - 1) = _
    rw [i64_in _ (by omega)]; omega
  exact endsP rfl (WkA.refl _)

end Go.Cel

set_option linter.unusedVariables false
set_option maxRecDepth 100000
namespace Go.Cel
open Go.Proofs Go.IntWalk

abbrev bEntry (x : Entry) : B := .agg [.d (.str x.Key), .d (dVersions x.L)]
abbrev ePiece (p : Piece) : List D := [.int .i64 p.N, .int .u32 p.Tag]
abbrev dPieces (l : List Piece) : D := .seq 43 (l.map ePiece)
abbrev bPiece (p : Piece) : B := .agg [.d (.int .i64 p.N), .d (.int .u32 p.Tag)]

def idxOf {α : Type} (q : α → Bool) (l : List α) : Int := match l.findIdx? q with | some i => (i : Int) | none => -1
theorem idxOf_some {α : Type} [Inhabited α] {q : α → Bool} {l : List α} {i : Nat} (hi : i < l.length) (h : ∀ j, j < i → q (l.getD j default) = false) (hq : q (l.getD i default) = true) : idxOf q l = (i : Int) := by
  have : l.findIdx? q = some i := by
    rw [List.findIdx?_eq_some_iff_getElem]
    refine ⟨hi, ?_, fun j hj => ?_⟩
    · simpa [List.getD_eq_getElem?_getD, hi] using hq
    · have h1 := h j hj
      have hj' : j < l.length := by omega
      simpa [List.getD_eq_getElem?_getD, hj'] using h1
  simp [idxOf, this]
theorem idxOf_none {α : Type} [Inhabited α] {q : α → Bool} {l : List α} (h : ∀ j, j < l.length → q (l.getD j default) = false) : idxOf q l = -1 := by
  have : l.findIdx? q = none := by
    rw [List.findIdx?_eq_none_iff]
    intro x hx
    obtain ⟨j, hj, rfl⟩ := List.getElem_of_mem hx
    have h1 := h j hj
    simpa [List.getD_eq_getElem?_getD, hj] using h1
  simp [idxOf, this]
theorem idxOf_any {α : Type} {q : α → Bool} {l : List α} : decide (0 ≤ idxOf q l) = l.any q := by
  unfold idxOf
  cases h : l.findIdx? q with
  | none =>
    rw [List.findIdx?_eq_none_iff] at h
    have : l.any q = false := by rw [List.any_eq_false]; intro x hx; simp [h x hx]
    simp [this]
  | some i =>
    rw [List.findIdx?_eq_some_iff_getElem] at h
    obtain ⟨hi, hq, _⟩ := h
    have : l.any q = true := List.any_eq_true.2 ⟨_, List.getElem_mem hi, hq⟩
    simp [this]


theorem idx_Version {f : FuncId} {first caps : List D} {q : Version → Bool} (hq : ∀ x, Pure Tryz.prog f (first.map bD ++ ([bVersion x] ++ caps.map bD)) (dl (.bool (q x)))) (l : List Version) :
    Pure Tryz.prog 128 [bD (dVersions l), bD (.fn f first caps)] (dl (.int .i64 (idxOf q l))) := by
  refine pure_intro hT Tryz.func128 rfl (by kernel_rfl) rfl rfl fun X hX => ?_
  refine V_lenb (j := 0) rfl fun hlen _ => ?_
  simp only [List.length_map, maxLen] at hlen
  refine V_go (n := 1000) hT rfl ?_
  refine V_loop hX (fun (i : Nat) => ⟨[(8, [], dl (.int .i64 i)), (7, [], dl (.int .i64 l.length)), (1, [], dl (.fn f first caps)), (0, [], dl (dVersions l)), (4, [], dl (.int .i64 0))], [], 0, [], [], 19⟩)
    (fun i => i ≤ l.length ∧ ∀ j, j < i → q (l.getD j default) = false) (fun i => l.length - i) 0 ?_ ⟨Nat.zero_le _, fun j h => by omega⟩ fun i hi => ?_
  · exact ghost_of [] rfl rfl rfl rfl rfl ⟨⟨rfl, rfl⟩, ⟨rfl, congrArg (fun (n : Nat) => some (([] : Path), dl (.int .i64 n))) (List.length_map ..)⟩, ⟨rfl, rfl⟩, ⟨rfl, rfl⟩, ⟨rfl, rfl⟩, trivial⟩ trivial
  refine V_go (n := 1000) hT rfl ?_
  refine V_cond rfl (fun hlt => ?_) fun hge => ?_
  · have hlt' : i < l.length := by simpa using hlt
    refine V_go (n := 1000) hT rfl ?_
    refine VL_Y (n := 1000) hT (yl_indexAddr (n := i) (cs := eVersion (l.getD i default)) hT rfl rfl rfl rfl rfl rfl rfl (get_map hlt')) rfl rfl rfl ?_
    refine VL_Y (n := 1000) hT (yl_pure (hq (l.getD i default)) rfl rfl (noOwn_fn rfl)) rfl rfl rfl ?_
    refine V_cond rfl (fun hb => ?_) fun hb => ?_
    · refine V_go (n := 1000) hT rfl ?_
      refine endsP rfl ?_
      rw [idxOf_some hlt' hi.2 hb]; exact WkA.refl _
    · refine V_go (n := 1000) hT rfl ?_
      refine ⟨i + 1, ⟨hlt', fun j hj => ?_⟩, by omega, ?_⟩
      · rcases Nat.lt_succ_iff_lt_or_eq.1 hj with h | rfl
        · exact hi.2 j h
        · exact hb
      · have hw := i64_succ (n := i) (by omega)
        exact ghost_of [] rfl rfl rfl rfl rfl ⟨⟨rfl, congrArg (fun z => some (([] : Path), dl (.int .i64 z))) hw⟩, ⟨rfl, rfl⟩, ⟨rfl, rfl⟩, ⟨rfl, rfl⟩, ⟨rfl, rfl⟩, trivial⟩ trivial
  · refine V_go (n := 1000) hT rfl ?_
    refine endsP rfl ?_
    have hi0 : i = l.length := by have := hi.1; simp at hge; omega
    rw [idxOf_none (hi0 ▸ hi.2)]; exact WkA.refl _


theorem idx_Upload {f : FuncId} {first caps : List D} {q : Upload → Bool} (hq : ∀ x, Pure Tryz.prog f (first.map bD ++ ([bUpload x] ++ caps.map bD)) (dl (.bool (q x)))) (l : List Upload) :
    Pure Tryz.prog 129 [bD (dUploads l), bD (.fn f first caps)] (dl (.int .i64 (idxOf q l))) := by
  refine pure_intro hT Tryz.func129 rfl (by kernel_rfl) rfl rfl fun X hX => ?_
  refine V_lenb (j := 0) rfl fun hlen _ => ?_
  simp only [List.length_map, maxLen] at hlen
  refine V_go (n := 1000) hT rfl ?_
  refine V_loop hX (fun (i : Nat) => ⟨[(8, [], dl (.int .i64 i)), (7, [], dl (.int .i64 l.length)), (1, [], dl (.fn f first caps)), (0, [], dl (dUploads l)), (4, [], dl (.int .i64 0))], [], 0, [], [], 19⟩)
    (fun i => i ≤ l.length ∧ ∀ j, j < i → q (l.getD j default) = false) (fun i => l.length - i) 0 ?_ ⟨Nat.zero_le _, fun j h => by omega⟩ fun i hi => ?_
  · exact ghost_of [] rfl rfl rfl rfl rfl ⟨⟨rfl, rfl⟩, ⟨rfl, congrArg (fun (n : Nat) => some (([] : Path), dl (.int .i64 n))) (List.length_map ..)⟩, ⟨rfl, rfl⟩, ⟨rfl, rfl⟩, ⟨rfl, rfl⟩, trivial⟩ trivial
  refine V_go (n := 1000) hT rfl ?_
  refine V_cond rfl (fun hlt => ?_) fun hge => ?_
  · have hlt' : i < l.length := by simpa using hlt
    refine V_go (n := 1000) hT rfl ?_
    refine VL_Y (n := 1000) hT (yl_indexAddr (n := i) (cs := eUpload (l.getD i default)) hT rfl rfl rfl rfl rfl rfl rfl (get_map hlt')) rfl rfl rfl ?_
    refine VL_Y (n := 1000) hT (yl_pure (hq (l.getD i default)) rfl rfl (noOwn_fn rfl)) rfl rfl rfl ?_
    refine V_cond rfl (fun hb => ?_) fun hb => ?_
    · refine V_go (n := 1000) hT rfl ?_
      refine endsP rfl ?_
      rw [idxOf_some hlt' hi.2 hb]; exact WkA.refl _
    · refine V_go (n := 1000) hT rfl ?_
      refine ⟨i + 1, ⟨hlt', fun j hj => ?_⟩, by omega, ?_⟩
      · rcases Nat.lt_succ_iff_lt_or_eq.1 hj with h | rfl
        · exact hi.2 j h
        · exact hb
      · have hw := i64_succ (n := i) (by omega)
        exact ghost_of [] rfl rfl rfl rfl rfl ⟨⟨rfl, congrArg (fun z => some (([] : Path), dl (.int .i64 z))) hw⟩, ⟨rfl, rfl⟩, ⟨rfl, rfl⟩, ⟨rfl, rfl⟩, ⟨rfl, rfl⟩, trivial⟩ trivial
  · refine V_go (n := 1000) hT rfl ?_
    refine endsP rfl ?_
    have hi0 : i = l.length := by have := hi.1; simp at hge; omega
    rw [idxOf_none (hi0 ▸ hi.2)]; exact WkA.refl _


theorem idx_Entry {f : FuncId} {first caps : List D} {q : Entry → Bool} (hq : ∀ x, Pure Tryz.prog f (first.map bD ++ ([bEntry x] ++ caps.map bD)) (dl (.bool (q x)))) (l : List Entry) :
    Pure Tryz.prog 145 [bD (dEntries l), bD (.fn f first caps)] (dl (.int .i64 (idxOf q l))) := by
  refine pure_intro hT Tryz.func145 rfl (by kernel_rfl) rfl rfl fun X hX => ?_
  refine V_lenb (j := 0) rfl fun hlen _ => ?_
  simp only [List.length_map, maxLen] at hlen
  refine V_go (n := 1000) hT rfl ?_
  refine V_loop hX (fun (i : Nat) => ⟨[(8, [], dl (.int .i64 i)), (7, [], dl (.int .i64 l.length)), (1, [], dl (.fn f first caps)), (0, [], dl (dEntries l)), (4, [], dl (.int .i64 0))], [], 0, [], [], 19⟩)
    (fun i => i ≤ l.length ∧ ∀ j, j < i → q (l.getD j default) = false) (fun i => l.length - i) 0 ?_ ⟨Nat.zero_le _, fun j h => by omega⟩ fun i hi => ?_
  · exact ghost_of [] rfl rfl rfl rfl rfl ⟨⟨rfl, rfl⟩, ⟨rfl, congrArg (fun (n : Nat) => some (([] : Path), dl (.int .i64 n))) (List.length_map ..)⟩, ⟨rfl, rfl⟩, ⟨rfl, rfl⟩, ⟨rfl, rfl⟩, trivial⟩ trivial
  refine V_go (n := 1000) hT rfl ?_
  refine V_cond rfl (fun hlt => ?_) fun hge => ?_
  · have hlt' : i < l.length := by simpa using hlt
    refine V_go (n := 1000) hT rfl ?_
    refine VL_Y (n := 1000) hT (yl_indexAddr (n := i) (cs := eEntry (l.getD i default)) hT rfl rfl rfl rfl rfl rfl rfl (get_map hlt')) rfl rfl rfl ?_
    refine VL_Y (n := 1000) hT (yl_pure (hq (l.getD i default)) rfl rfl (noOwn_fn rfl)) rfl rfl rfl ?_
    refine V_cond rfl (fun hb => ?_) fun hb => ?_
    · refine V_go (n := 1000) hT rfl ?_
      refine endsP rfl ?_
      rw [idxOf_some hlt' hi.2 hb]; exact WkA.refl _
    · refine V_go (n := 1000) hT rfl ?_
      refine ⟨i + 1, ⟨hlt', fun j hj => ?_⟩, by omega, ?_⟩
      · rcases Nat.lt_succ_iff_lt_or_eq.1 hj with h | rfl
        · exact hi.2 j h
        · exact hb
      · have hw := i64_succ (n := i) (by omega)
        exact ghost_of [] rfl rfl rfl rfl rfl ⟨⟨rfl, congrArg (fun z => some (([] : Path), dl (.int .i64 z))) hw⟩, ⟨rfl, rfl⟩, ⟨rfl, rfl⟩, ⟨rfl, rfl⟩, ⟨rfl, rfl⟩, trivial⟩ trivial
  · refine V_go (n := 1000) hT rfl ?_
    refine endsP rfl ?_
    have hi0 : i = l.length := by have := hi.1; simp at hge; omega
    rw [idxOf_none (hi0 ▸ hi.2)]; exact WkA.refl _


theorem idx_Versions {f : FuncId} {first caps : List D} {q : Version → Bool} (hq : ∀ x, Pure Tryz.prog f (first.map bD ++ ([bVersion x] ++ caps.map bD)) (dl (.bool (q x)))) (l : List Version) :
    Pure Tryz.prog 159 [bD (dVersions l), bD (.fn f first caps)] (dl (.int .i64 (idxOf q l))) := by
  refine pure_intro hT Tryz.func159 rfl (by kernel_rfl) rfl rfl fun X hX => ?_
  refine V_lenb (j := 0) rfl fun hlen _ => ?_
  simp only [List.length_map, maxLen] at hlen
  refine V_go (n := 1000) hT rfl ?_
  refine V_loop hX (fun (i : Nat) => ⟨[(8, [], dl (.int .i64 i)), (7, [], dl (.int .i64 l.length)), (1, [], dl (.fn f first caps)), (0, [], dl (dVersions l)), (4, [], dl (.int .i64 0))], [], 0, [], [], 19⟩)
    (fun i => i ≤ l.length ∧ ∀ j, j < i → q (l.getD j default) = false) (fun i => l.length - i) 0 ?_ ⟨Nat.zero_le _, fun j h => by omega⟩ fun i hi => ?_
  · exact ghost_of [] rfl rfl rfl rfl rfl ⟨⟨rfl, rfl⟩, ⟨rfl, congrArg (fun (n : Nat) => some (([] : Path), dl (.int .i64 n))) (List.length_map ..)⟩, ⟨rfl, rfl⟩, ⟨rfl, rfl⟩, ⟨rfl, rfl⟩, trivial⟩ trivial
  refine V_go (n := 1000) hT rfl ?_
  refine V_cond rfl (fun hlt => ?_) fun hge => ?_
  · have hlt' : i < l.length := by simpa using hlt
    refine V_go (n := 1000) hT rfl ?_
    refine VL_Y (n := 1000) hT (yl_indexAddr (n := i) (cs := eVersion (l.getD i default)) hT rfl rfl rfl rfl rfl rfl rfl (get_map hlt')) rfl rfl rfl ?_
    refine VL_Y (n := 1000) hT (yl_pure (hq (l.getD i default)) rfl rfl (noOwn_fn rfl)) rfl rfl rfl ?_
    refine V_cond rfl (fun hb => ?_) fun hb => ?_
    · refine V_go (n := 1000) hT rfl ?_
      refine endsP rfl ?_
      rw [idxOf_some hlt' hi.2 hb]; exact WkA.refl _
    · refine V_go (n := 1000) hT rfl ?_
      refine ⟨i + 1, ⟨hlt', fun j hj => ?_⟩, by omega, ?_⟩
      · rcases Nat.lt_succ_iff_lt_or_eq.1 hj with h | rfl
        · exact hi.2 j h
        · exact hb
      · have hw := i64_succ (n := i) (by omega)
        exact ghost_of [] rfl rfl rfl rfl rfl ⟨⟨rfl, congrArg (fun z => some (([] : Path), dl (.int .i64 z))) hw⟩, ⟨rfl, rfl⟩, ⟨rfl, rfl⟩, ⟨rfl, rfl⟩, ⟨rfl, rfl⟩, trivial⟩ trivial
  · refine V_go (n := 1000) hT rfl ?_
    refine endsP rfl ?_
    have hi0 : i = l.length := by have := hi.1; simp at hge; omega
    rw [idxOf_none (hi0 ▸ hi.2)]; exact WkA.refl _


theorem idx_Part {f : FuncId} {first caps : List D} {q : Part → Bool} (hq : ∀ x, Pure Tryz.prog f (first.map bD ++ ([bPart x] ++ caps.map bD)) (dl (.bool (q x)))) (l : List Part) :
    Pure Tryz.prog 166 [bD (dParts l), bD (.fn f first caps)] (dl (.int .i64 (idxOf q l))) := by
  refine pure_intro hT Tryz.func166 rfl (by kernel_rfl) rfl rfl fun X hX => ?_
  refine V_lenb (j := 0) rfl fun hlen _ => ?_
  simp only [List.length_map, maxLen] at hlen
  refine V_go (n := 1000) hT rfl ?_
  refine V_loop hX (fun (i : Nat) => ⟨[(8, [], dl (.int .i64 i)), (7, [], dl (.int .i64 l.length)), (1, [], dl (.fn f first caps)), (0, [], dl (dParts l)), (4, [], dl (.int .i64 0))], [], 0, [], [], 19⟩)
    (fun i => i ≤ l.length ∧ ∀ j, j < i → q (l.getD j default) = false) (fun i => l.length - i) 0 ?_ ⟨Nat.zero_le _, fun j h => by omega⟩ fun i hi => ?_
  · exact ghost_of [] rfl rfl rfl rfl rfl ⟨⟨rfl, rfl⟩, ⟨rfl, congrArg (fun (n : Nat) => some (([] : Path), dl (.int .i64 n))) (List.length_map ..)⟩, ⟨rfl, rfl⟩, ⟨rfl, rfl⟩, ⟨rfl, rfl⟩, trivial⟩ trivial
  refine V_go (n := 1000) hT rfl ?_
  refine V_cond rfl (fun hlt => ?_) fun hge => ?_
  · have hlt' : i < l.length := by simpa using hlt
    refine V_go (n := 1000) hT rfl ?_
    refine VL_Y (n := 1000) hT (yl_indexAddr (n := i) (cs := ePart (l.getD i default)) hT rfl rfl rfl rfl rfl rfl rfl (get_map hlt')) rfl rfl rfl ?_
    refine VL_Y (n := 1000) hT (yl_pure (hq (l.getD i default)) rfl rfl (noOwn_fn rfl)) rfl rfl rfl ?_
    refine V_cond rfl (fun hb => ?_) fun hb => ?_
    · refine V_go (n := 1000) hT rfl ?_
      refine endsP rfl ?_
      rw [idxOf_some hlt' hi.2 hb]; exact WkA.refl _
    · refine V_go (n := 1000) hT rfl ?_
      refine ⟨i + 1, ⟨hlt', fun j hj => ?_⟩, by omega, ?_⟩
      · rcases Nat.lt_succ_iff_lt_or_eq.1 hj with h | rfl
        · exact hi.2 j h
        · exact hb
      · have hw := i64_succ (n := i) (by omega)
        exact ghost_of [] rfl rfl rfl rfl rfl ⟨⟨rfl, congrArg (fun z => some (([] : Path), dl (.int .i64 z))) hw⟩, ⟨rfl, rfl⟩, ⟨rfl, rfl⟩, ⟨rfl, rfl⟩, ⟨rfl, rfl⟩, trivial⟩ trivial
  · refine V_go (n := 1000) hT rfl ?_
    refine endsP rfl ?_
    have hi0 : i = l.length := by have := hi.1; simp at hge; omega
    rw [idxOf_none (hi0 ▸ hi.2)]; exact WkA.refl _


theorem idx_Piece {f : FuncId} {first caps : List D} {q : Piece → Bool} (hq : ∀ x, Pure Tryz.prog f (first.map bD ++ ([bPiece x] ++ caps.map bD)) (dl (.bool (q x)))) (l : List Piece) :
    Pure Tryz.prog 138 [bD (dPieces l), bD (.fn f first caps)] (dl (.int .i64 (idxOf q l))) := by
  refine pure_intro hT Tryz.func138 rfl (by kernel_rfl) rfl rfl fun X hX => ?_
  refine V_lenb (j := 0) rfl fun hlen _ => ?_
  simp only [List.length_map, maxLen] at hlen
  refine V_go (n := 1000) hT rfl ?_
  refine V_loop hX (fun (i : Nat) => ⟨[(8, [], dl (.int .i64 i)), (7, [], dl (.int .i64 l.length)), (1, [], dl (.fn f first caps)), (0, [], dl (dPieces l)), (4, [], dl (.int .i64 0))], [], 0, [], [], 19⟩)
    (fun i => i ≤ l.length ∧ ∀ j, j < i → q (l.getD j default) = false) (fun i => l.length - i) 0 ?_ ⟨Nat.zero_le _, fun j h => by omega⟩ fun i hi => ?_
  · exact ghost_of [] rfl rfl rfl rfl rfl ⟨⟨rfl, rfl⟩, ⟨rfl, congrArg (fun (n : Nat) => some (([] : Path), dl (.int .i64 n))) (List.length_map ..)⟩, ⟨rfl, rfl⟩, ⟨rfl, rfl⟩, ⟨rfl, rfl⟩, trivial⟩ trivial
  refine V_go (n := 1000) hT rfl ?_
  refine V_cond rfl (fun hlt => ?_) fun hge => ?_
  · have hlt' : i < l.length := by simpa using hlt
    refine V_go (n := 1000) hT rfl ?_
    refine VL_Y (n := 1000) hT (yl_indexAddr (n := i) (cs := ePiece (l.getD i default)) hT rfl rfl rfl rfl rfl rfl rfl (get_map hlt')) rfl rfl rfl ?_
    refine VL_Y (n := 1000) hT (yl_pure (hq (l.getD i default)) rfl rfl (noOwn_fn rfl)) rfl rfl rfl ?_
    refine V_cond rfl (fun hb => ?_) fun hb => ?_
    · refine V_go (n := 1000) hT rfl ?_
      refine endsP rfl ?_
      rw [idxOf_some hlt' hi.2 hb]; exact WkA.refl _
    · refine V_go (n := 1000) hT rfl ?_
      refine ⟨i + 1, ⟨hlt', fun j hj => ?_⟩, by omega, ?_⟩
      · rcases Nat.lt_succ_iff_lt_or_eq.1 hj with h | rfl
        · exact hi.2 j h
        · exact hb
      · have hw := i64_succ (n := i) (by omega)
        exact ghost_of [] rfl rfl rfl rfl rfl ⟨⟨rfl, congrArg (fun z => some (([] : Path), dl (.int .i64 z))) hw⟩, ⟨rfl, rfl⟩, ⟨rfl, rfl⟩, ⟨rfl, rfl⟩, ⟨rfl, rfl⟩, trivial⟩ trivial
  · refine V_go (n := 1000) hT rfl ?_
    refine endsP rfl ?_
    have hi0 : i = l.length := by have := hi.1; simp at hge; omega
    rw [idxOf_none (hi0 ▸ hi.2)]; exact WkA.refl _


theorem has_Version {f : FuncId} {first caps : List D} {q : Version → Bool} (hq : ∀ x, Pure Tryz.prog f (first.map bD ++ ([bVersion x] ++ caps.map bD)) (dl (.bool (q x)))) (l : List Version) :
    Pure Tryz.prog 71 [bD (dVersions l), bD (.fn f first caps)] (dl (.bool (l.any q))) := by
  refine pure_intro hT Tryz.func71 rfl (by kernel_rfl) rfl rfl fun X hX => ?_
  refine V_go (n := 1000) hT rfl ?_
  refine VL_Y (n := 1000) hT (yl_pure (idx_Version hq l) rfl rfl rfl) rfl rfl rfl ?_
  refine endsP rfl ?_
  show WkA (dl (.bool (decide (0 ≤ idxOf q l)))) _
  rw [idxOf_any]; exact WkA.refl _


theorem has_Upload {f : FuncId} {first caps : List D} {q : Upload → Bool} (hq : ∀ x, Pure Tryz.prog f (first.map bD ++ ([bUpload x] ++ caps.map bD)) (dl (.bool (q x)))) (l : List Upload) :
    Pure Tryz.prog 72 [bD (dUploads l), bD (.fn f first caps)] (dl (.bool (l.any q))) := by
  refine pure_intro hT Tryz.func72 rfl (by kernel_rfl) rfl rfl fun X hX => ?_
  refine V_go (n := 1000) hT rfl ?_
  refine VL_Y (n := 1000) hT (yl_pure (idx_Upload hq l) rfl rfl rfl) rfl rfl rfl ?_
  refine endsP rfl ?_
  show WkA (dl (.bool (decide (0 ≤ idxOf q l)))) _
  rw [idxOf_any]; exact WkA.refl _


theorem has_Piece {f : FuncId} {first caps : List D} {q : Piece → Bool} (hq : ∀ x, Pure Tryz.prog f (first.map bD ++ ([bPiece x] ++ caps.map bD)) (dl (.bool (q x)))) (l : List Piece) :
    Pure Tryz.prog 95 [bD (dPieces l), bD (.fn f first caps)] (dl (.bool (l.any q))) := by
  refine pure_intro hT Tryz.func95 rfl (by kernel_rfl) rfl rfl fun X hX => ?_
  refine V_go (n := 1000) hT rfl ?_
  refine VL_Y (n := 1000) hT (yl_pure (idx_Piece hq l) rfl rfl rfl) rfl rfl rfl ?_
  refine endsP rfl ?_
  show WkA (dl (.bool (decide (0 ≤ idxOf q l)))) _
  rw [idxOf_any]; exact WkA.refl _


theorem has_Part {f : FuncId} {first caps : List D} {q : Part → Bool} (hq : ∀ x, Pure Tryz.prog f (first.map bD ++ ([bPart x] ++ caps.map bD)) (dl (.bool (q x)))) (l : List Part) :
    Pure Tryz.prog 139 [bD (dParts l), bD (.fn f first caps)] (dl (.bool (l.any q))) := by
  refine pure_intro hT Tryz.func139 rfl (by kernel_rfl) rfl rfl fun X hX => ?_
  refine V_go (n := 1000) hT rfl ?_
  refine VL_Y (n := 1000) hT (yl_pure (idx_Part hq l) rfl rfl rfl) rfl rfl rfl ?_
  refine endsP rfl ?_
  show WkA (dl (.bool (decide (0 ≤ idxOf q l)))) _
  rw [idxOf_any]; exact WkA.refl _


theorem has_Versions {f : FuncId} {first caps : List D} {q : Version → Bool} (hq : ∀ x, Pure Tryz.prog f (first.map bD ++ ([bVersion x] ++ caps.map bD)) (dl (.bool (q x)))) (l : List Version) :
    Pure Tryz.prog 148 [bD (dVersions l), bD (.fn f first caps)] (dl (.bool (l.any q))) := by
  refine pure_intro hT Tryz.func148 rfl (by kernel_rfl) rfl rfl fun X hX => ?_
  refine V_go (n := 1000) hT rfl ?_
  refine VL_Y (n := 1000) hT (yl_pure (idx_Versions hq l) rfl rfl rfl) rfl rfl rfl ?_
  refine endsP rfl ?_
  show WkA (dl (.bool (decide (0 ≤ idxOf q l)))) _
  rw [idxOf_any]; exact WkA.refl _

theorem noOwnLs_d : ∀ (l : List D), noOwnLs (l.map L.d) = true
  | [] => rfl
  | x :: r => by simp [noOwnLs, noOwnLs_d r]
theorem noOwn_mfn {recv : List D} {l : List B} (h : noOwnBs l = true) : noOwnBs (.agg (recv.map L.d) :: l) = true := by
  simp only [noOwnBs, noOwnB, noOwnLs_d, h]; rfl


theorem idxM_Piece {f : FuncId} {recv : List D} {q : Piece → Bool} (hq : ∀ x, Pure Tryz.prog f [.agg (recv.map L.d), bPiece x] (dl (.bool (q x)))) (l : List Piece) :
    Pure Tryz.prog 138 [bD (dPieces l), bD (.mfn f recv)] (dl (.int .i64 (idxOf q l))) := by
  refine pure_intro hT Tryz.func138 rfl (by kernel_rfl) rfl rfl fun X hX => ?_
  refine V_lenb (j := 0) rfl fun hlen _ => ?_
  simp only [List.length_map, maxLen] at hlen
  refine V_go (n := 1000) hT rfl ?_
  refine V_loop hX (fun (i : Nat) => ⟨[(8, [], dl (.int .i64 i)), (7, [], dl (.int .i64 l.length)), (1, [], dl (.mfn f recv)), (0, [], dl (dPieces l)), (4, [], dl (.int .i64 0))], [], 0, [], [], 19⟩)
    (fun i => i ≤ l.length ∧ ∀ j, j < i → q (l.getD j default) = false) (fun i => l.length - i) 0 ?_ ⟨Nat.zero_le _, fun j h => by omega⟩ fun i hi => ?_
  · exact ghost_of [] rfl rfl rfl rfl rfl ⟨⟨rfl, rfl⟩, ⟨rfl, congrArg (fun (n : Nat) => some (([] : Path), dl (.int .i64 n))) (List.length_map ..)⟩, ⟨rfl, rfl⟩, ⟨rfl, rfl⟩, ⟨rfl, rfl⟩, trivial⟩ trivial
  refine V_go (n := 1000) hT rfl ?_
  refine V_cond rfl (fun hlt => ?_) fun hge => ?_
  · have hlt' : i < l.length := by simpa using hlt
    refine V_go (n := 1000) hT rfl ?_
    refine VL_Y (n := 1000) hT (yl_indexAddr (n := i) (cs := ePiece (l.getD i default)) hT rfl rfl rfl rfl rfl rfl rfl (get_map hlt')) rfl rfl rfl ?_
    refine VL_Y (n := 1000) hT (yl_pure (hq (l.getD i default)) rfl rfl (noOwn_mfn rfl)) rfl rfl rfl ?_
    refine V_cond rfl (fun hb => ?_) fun hb => ?_
    · refine V_go (n := 1000) hT rfl ?_
      refine endsP rfl ?_
      rw [idxOf_some hlt' hi.2 hb]; exact WkA.refl _
    · refine V_go (n := 1000) hT rfl ?_
      refine ⟨i + 1, ⟨hlt', fun j hj => ?_⟩, by omega, ?_⟩
      · rcases Nat.lt_succ_iff_lt_or_eq.1 hj with h | rfl
        · exact hi.2 j h
        · exact hb
      · have hw := i64_succ (n := i) (by omega)
        exact ghost_of [] rfl rfl rfl rfl rfl ⟨⟨rfl, congrArg (fun z => some (([] : Path), dl (.int .i64 z))) hw⟩, ⟨rfl, rfl⟩, ⟨rfl, rfl⟩, ⟨rfl, rfl⟩, ⟨rfl, rfl⟩, trivial⟩ trivial
  · refine V_go (n := 1000) hT rfl ?_
    refine endsP rfl ?_
    have hi0 : i = l.length := by have := hi.1; simp at hge; omega
    rw [idxOf_none (hi0 ▸ hi.2)]; exact WkA.refl _


theorem hasM_Piece {f : FuncId} {recv : List D} {q : Piece → Bool} (hq : ∀ x, Pure Tryz.prog f [.agg (recv.map L.d), bPiece x] (dl (.bool (q x)))) (l : List Piece) :
    Pure Tryz.prog 95 [bD (dPieces l), bD (.mfn f recv)] (dl (.bool (l.any q))) := by
  refine pure_intro hT Tryz.func95 rfl (by kernel_rfl) rfl rfl fun X hX => ?_
  refine V_go (n := 1000) hT rfl ?_
  refine VL_Y (n := 1000) hT (yl_pure (idxM_Piece hq l) rfl rfl rfl) rfl rfl rfl ?_
  refine endsP rfl ?_
  show WkA (dl (.bool (decide (0 ≤ idxOf q l)))) _
  rw [idxOf_any]; exact WkA.refl _

end Go.Cel

set_option linter.unusedVariables false
set_option maxRecDepth 100000
namespace Go.Cel
open Go.Proofs Go.IntWalk

def mayV (v : Version) : Bool := decide (v.ID ≤ 281474976710655) && decide ((v.Data.size : Int) ≤ 2000) && (!v.Mark || v.Data == ⟨#[]⟩) && decide (0 ≤ v.At) && decide (v.At ≤ 1099511627775)
theorem chain_may (v : Version) : Pure Tryz.prog 110 [bVersion v] (dl (.bool (mayV v))) := by
  refine pure_intro hT Tryz.func110 rfl (by kernel_rfl) rfl rfl fun X _ => ?_
  refine V_go (n := 1000) hT rfl ?_
  exact endsP rfl (WkA.refl _)

theorem chain_Check1 (v : Version) : Pure Tryz.prog 151 [bVersion v] (dl (.bool (!mayV v))) := by
  refine pure_intro hT Tryz.func151 rfl (by kernel_rfl) rfl rfl fun X _ => ?_
  refine V_go (n := 1000) hT rfl ?_
  refine VL_Y (n := 1000) hT (yl_pure (chain_may v) rfl rfl rfl) rfl rfl rfl ?_
  exact endsP rfl (WkA.refl _)

/-- the order of a chain. -/
def chainGo : Int → Bool → Option Int → List Version → Bool
  | _, _, _, [] => true
  | last, null, prev, v :: r =>
    if (match prev with | some t => decide (t < v.At) | none => false) then false
    else if (v.ID == 0 && null) then false
    else if decide (last ≤ v.ID) then false
    else if v.ID == 0 then chainGo last true (some v.At) r else chainGo v.ID null (some v.At) r
def chainOK (l : List Version) : Bool := !(decide (20 < (l.length : Int)) || l.any fun v => !mayV v) && chainGo 281474976710656 false none l
def errOf (b : Bool) : Int := if b then 0 else 1

def prevAt (l : List Version) (i : Nat) : Option Int := if i = 0 then none else some (l.getD (i - 1) default).At

theorem drop_get {α : Type} [Inhabited α] {l : List α} {i : Nat} (h : i < l.length) : l.drop i = l.getD i default :: l.drop (i + 1) := by
  rw [List.drop_eq_getElem_cons h]
  simp [List.getD_eq_getElem?_getD, h]

theorem chain_Check (l : List Version) : Pure Tryz.prog 109 [bD (dVersions l)] (dl (.int .i64 (errOf (chainOK l)))) := by
  refine pure_intro hT Tryz.func109 rfl (by kernel_rfl) rfl rfl fun X hX => ?_
  refine V_lenb (j := 0) rfl fun hlen _ => ?_
  simp only [List.length_map, maxLen] at hlen
  refine V_go (n := 1000) hT rfl ?_
  refine VL_Yp (n := 1000) hT rfl (yl_pure (has_Version (f := 151) (first := []) (caps := []) (fun x => chain_Check1 x) l) rfl rfl rfl) rfl rfl ?_
  refine V_cond rfl (fun hc => ?_) fun hc => ?_
  · refine V_go (n := 1000) hT rfl ?_
    refine endsP rfl ?_
    have : chainOK l = false := by
      rw [List.length_map] at hc
      unfold chainOK; rw [hc]; rfl
    rw [this]; exact WkA.refl _
  rw [List.length_map] at hc
  refine V_go (n := 1000) hT rfl ?_
  refine V_loop hX (fun (x : Nat × Int × Bool) => ⟨[(16, [], dl (.int .i64 x.1)), (15, [], dl (.int .i64 l.length)), (14, [], dl (dVersions l)), (0, [], dl (dVersions l)), (2, [], dl (.int .i64 0)), (3, [], dl (.int .u64 x.2.1)), (4, [], dl (.bool x.2.2))], [], 0, [], [], 52⟩)
    (fun x => x.1 ≤ l.length ∧ chainGo x.2.1 x.2.2 (prevAt l x.1) (l.drop x.1) = chainGo 281474976710656 false none l) (fun x => l.length - x.1) (0, 281474976710656, false) ?_ ⟨Nat.zero_le _, by simp [prevAt]⟩ fun x hx => ?_
  · exact ghost_of [] rfl rfl rfl rfl rfl ⟨⟨rfl, rfl⟩, ⟨rfl, congrArg (fun (n : Nat) => some (([] : Path), dl (.int .i64 n))) (List.length_map ..)⟩, ⟨rfl, rfl⟩, ⟨rfl, rfl⟩, ⟨rfl, rfl⟩, ⟨rfl, rfl⟩, ⟨rfl, rfl⟩, trivial⟩ trivial
  obtain ⟨i, last, null⟩ := x
  obtain ⟨hi, hinv⟩ := hx
  simp only at hi hinv
  dsimp only
  refine V_go (n := 1000) hT rfl ?_
  refine V_cond rfl (fun hlt => ?_) fun hge => ?_
  · have hlt' : i < l.length := by simpa using hlt
    have hget := get_map (f := eVersion) hlt'
    rw [drop_get hlt'] at hinv
    refine V_go (n := 1000) hT rfl ?_
    refine VL_Y (n := 1000) hT (yl_indexAddr (n := i) (cs := eVersion (l.getD i default)) hT rfl rfl rfl rfl rfl rfl rfl hget) rfl rfl rfl ?_
    refine VD_start ?_
    refine VD_go hT rfl rfl ?_
    refine VD_Y hT rfl rfl rfl rfl (Yl.given rfl fun h => yl_indexAddr (n := i - 1) (cs := eVersion (l.getD (i - 1) default)) hT rfl rfl rfl rfl rfl rfl ?_ (get_map (by omega))) rfl rfl rfl ?_
    · have h1 : decide (0 < (i : Int)) = true := h.1
      show IntKind.i64.wrap ((i : Int) - 1) = _
      have := of_decide_eq_true h1
      rw [i64_in _ (by omega)]; omega
    refine VD_end (n := 1000) hT rfl (by kernel_rfl) (by kernel_rfl) rfl rfl rfl ?_
    have hprev : (match prevAt l i with | some t => decide (t < (l.getD i default).At) | none => false) = (decide (0 < (i : Int)) && decide ((l.getD (i - 1) default).At < (l.getD i default).At)) := by
      unfold prevAt
      by_cases h0 : i = 0
      · subst h0; rfl
      · have : (0 : Int) < i := by omega
        simp only [h0, if_false, this, decide_true, Bool.true_and]
    have hbad : ∀ b, chainGo last null (prevAt l i) (l.getD i default :: List.drop (i + 1) l) = b → chainGo 281474976710656 false none l = b := fun b h => hinv.symm.trans h
    refine V_cond rfl (fun h1 => ?_) fun h1 => ?_
    · refine V_go (n := 1000) hT rfl ?_
      refine V_condT rfl h1 ?_
      refine V_go (n := 1000) hT rfl ?_
      refine endsP rfl ?_
      have : chainOK l = false := by
        unfold chainOK
        rw [hbad false (by unfold chainGo; rw [hprev, h1]; rfl)]; simp
      rw [this]; exact WkA.refl _
    · refine V_go (n := 1000) hT rfl ?_
      refine V_cond rfl (fun h2 => ?_) fun h2 => ?_
      · refine V_go (n := 1000) hT rfl ?_
        refine V_condT rfl h2 ?_
        refine V_go (n := 1000) hT rfl ?_
        refine endsP rfl ?_
        have : chainOK l = false := by
          unfold chainOK
          rw [hbad false (by unfold chainGo; rw [hprev, h1, h2]; rfl)]; simp
        rw [this]; exact WkA.refl _
      · refine V_go (n := 1000) hT rfl ?_
        refine V_cond rfl (fun h3 => ?_) fun h3 => ?_
        · refine V_go (n := 1000) hT rfl ?_
          refine endsP rfl ?_
          have : chainOK l = false := by
            unfold chainOK
            rw [hbad false (by unfold chainGo; rw [hprev, h1, h2, h3]; rfl)]; simp
          rw [this]; exact WkA.refl _
        · refine V_go (n := 1000) hT rfl ?_
          have hp' : prevAt l (i + 1) = some (l.getD i default).At := by simp [prevAt]
          have hw := i64_succ (n := i) (by omega)
          refine V_cond rfl (fun h4 => ?_) fun h4 => ?_
          · refine V_go (n := 1000) hT rfl ?_
            refine ⟨(i + 1, last, true), ⟨hlt', ?_⟩, by simp only; omega, ?_⟩
            · rw [← hinv]
              simp only [hp']
              have e : ∀ r, chainGo last null (prevAt l i) (l.getD i default :: r) = chainGo last true (some (l.getD i default).At) r := fun r => by
                conv => lhs; unfold chainGo
                rw [hprev, h1, h2, h3, h4]; rfl
              exact (e _).symm
            · exact ghost_of [] rfl rfl rfl rfl rfl ⟨⟨rfl, congrArg (fun z => some (([] : Path), dl (.int .i64 z))) hw⟩, ⟨rfl, rfl⟩, ⟨rfl, rfl⟩, ⟨rfl, rfl⟩, ⟨rfl, rfl⟩, ⟨rfl, rfl⟩, ⟨rfl, rfl⟩, trivial⟩ trivial
          · refine V_go (n := 1000) hT rfl ?_
            refine ⟨(i + 1, (l.getD i default).ID, null), ⟨hlt', ?_⟩, by simp only; omega, ?_⟩
            · rw [← hinv]
              simp only [hp']
              have e : ∀ r, chainGo last null (prevAt l i) (l.getD i default :: r) = chainGo (l.getD i default).ID null (some (l.getD i default).At) r := fun r => by
                conv => lhs; unfold chainGo
                rw [hprev, h1, h2, h3, h4]; rfl
              exact (e _).symm
            · exact ghost_of [] rfl rfl rfl rfl rfl ⟨⟨rfl, congrArg (fun z => some (([] : Path), dl (.int .i64 z))) hw⟩, ⟨rfl, rfl⟩, ⟨rfl, rfl⟩, ⟨rfl, rfl⟩, ⟨rfl, rfl⟩, ⟨rfl, rfl⟩, ⟨rfl, rfl⟩, trivial⟩ trivial
  · refine V_go (n := 1000) hT rfl ?_
    refine endsP rfl ?_
    have hi0 : i = l.length := by simp at hge; omega
    have : chainOK l = true := by
      unfold chainOK
      rw [← hinv, hc, hi0, List.drop_length]; rfl
    rw [this]; exact WkA.refl _

end Go.Cel

set_option linter.unusedVariables false
set_option maxRecDepth 100000
namespace Go.Cel
open Go.Proofs Go.IntWalk

/-- less, octet by octet. -/
def ltS (a b : ByteArray) : Bool := Op.bytesLess a.toList b.toList

def prevKey (l : List Entry) (i : Nat) : Option ByteArray := if i = 0 then none else some (l.getD (i - 1) default).Key
def entryBad (prev : Option ByteArray) (x : Entry) : Bool :=
  ((!keyOK x.Key || (match prev with | some k => !ltS k x.Key | none => false)) || (x.L.length : Int) == 0) || errOf (chainOK x.L) != 0
def indexGo : Option ByteArray → List Entry → Bool
  | _, [] => true
  | prev, x :: r => if entryBad prev x then false else indexGo (some x.Key) r
def indexOK (l : List Entry) : Bool := !decide (60 < (l.length : Int)) && indexGo none l

theorem index_Check (l : List Entry) : Pure Tryz.prog 67 [bD (dEntries l)] (dl (.int .i64 (errOf (indexOK l)))) := by
  refine pure_intro hT Tryz.func67 rfl (by kernel_rfl) rfl rfl fun X hX => ?_
  refine V_lenb (j := 0) rfl fun hlen _ => ?_
  simp only [List.length_map, maxLen] at hlen
  refine V_go (n := 1000) hT rfl ?_
  refine V_cond rfl (fun hc => ?_) fun hc => ?_
  · refine V_go (n := 1000) hT rfl ?_
    refine endsP rfl ?_
    have : indexOK l = false := by
      rw [List.length_map] at hc
      unfold indexOK; rw [hc]; rfl
    rw [this]; exact WkA.refl _
  rw [List.length_map] at hc
  refine V_go (n := 1000) hT rfl ?_
  refine V_loop hX (fun (i : Nat) => ⟨[(10, [], dl (.int .i64 i)), (9, [], dl (.int .i64 l.length)), (8, [], dl (dEntries l)), (0, [], dl (dEntries l)), (2, [], dl (.int .i64 0))], [], 0, [], [], 47⟩)
    (fun i => i ≤ l.length ∧ indexGo (prevKey l i) (l.drop i) = indexGo none l) (fun i => l.length - i) 0 ?_ ⟨Nat.zero_le _, by simp [prevKey]⟩ fun i hx => ?_
  · exact ghost_of [] rfl rfl rfl rfl rfl ⟨⟨rfl, rfl⟩, ⟨rfl, congrArg (fun (n : Nat) => some (([] : Path), dl (.int .i64 n))) (List.length_map ..)⟩, ⟨rfl, rfl⟩, ⟨rfl, rfl⟩, ⟨rfl, rfl⟩, trivial⟩ trivial
  obtain ⟨hi, hinv⟩ := hx
  refine V_go (n := 1000) hT rfl ?_
  refine V_cond rfl (fun hlt => ?_) fun hge => ?_
  · have hlt' : i < l.length := by simpa using hlt
    rw [drop_get hlt'] at hinv
    refine V_go (n := 1000) hT rfl ?_
    refine VL_Y (n := 1000) hT (yl_indexAddr (n := i) (cs := eEntry (l.getD i default)) hT rfl rfl rfl rfl rfl rfl rfl (get_map hlt')) rfl rfl rfl ?_
    refine VD_start ?_
    refine VD_go hT rfl rfl ?_
    refine VD_Y hT rfl rfl rfl rfl (yl_pure (name_Key (l.getD i default).Key) rfl rfl rfl) rfl rfl rfl ?_
    refine VD_Y hT rfl rfl rfl rfl (Yl.given rfl fun h => yl_indexAddr (n := i - 1) (cs := eEntry (l.getD (i - 1) default)) hT rfl rfl rfl rfl rfl rfl ?_ (get_map (by omega))) rfl rfl rfl ?_
    · have h1 : decide (0 < (i : Int)) = true := h.1
      show IntKind.i64.wrap ((i : Int) - 1) = _
      have := of_decide_eq_true h1
      rw [i64_in _ (by omega)]; omega
    refine VD_Y hT rfl rfl rfl rfl (yl_pure (chain_Check (l.getD i default).L) rfl rfl rfl) rfl rfl rfl ?_
    refine VD_end (n := 1000) hT rfl (by kernel_rfl) (by kernel_rfl) rfl rfl rfl ?_
    have hprev : (match prevKey l i with | some k => !ltS k (l.getD i default).Key | none => false) = (decide (0 < (i : Int)) && !ltS (l.getD (i - 1) default).Key (l.getD i default).Key) := by
      unfold prevKey
      by_cases h0 : i = 0
      · subst h0; rfl
      · have : (0 : Int) < i := by omega
        simp only [h0, if_false, this, decide_true, Bool.true_and]
    have hbad : entryBad (prevKey l i) (l.getD i default) = (((!keyOK (l.getD i default).Key || (decide (0 < (i : Int)) && !ltS (l.getD (i - 1) default).Key (l.getD i default).Key)) || (((l.getD i default).L.map eVersion).length : Int) == 0) || errOf (chainOK (l.getD i default).L) != 0) := by
      unfold entryBad; rw [hprev, List.length_map]
    refine V_cond rfl (fun h1 => ?_) fun h1 => ?_
    · replace h1 := hbad.trans h1
      refine V_go (n := 1000) hT rfl ?_
      refine endsP rfl ?_
      have : indexOK l = false := by
        unfold indexOK
        rw [← hinv, indexGo, h1]; simp
      rw [this]; exact WkA.refl _
    · replace h1 := hbad.trans h1
      refine V_go (n := 1000) hT rfl ?_
      refine ⟨i + 1, ⟨hlt', ?_⟩, by omega, ?_⟩
      · rw [← hinv]
        have hp' : prevKey l (i + 1) = some (l.getD i default).Key := by simp [prevKey]
        rw [hp']
        have e : ∀ r, indexGo (prevKey l i) (l.getD i default :: r) = indexGo (some (l.getD i default).Key) r := fun r => by
          conv => lhs; unfold indexGo
          rw [h1]; rfl
        exact (e _).symm
      · have hw := i64_succ (n := i) (by omega)
        exact ghost_of [] rfl rfl rfl rfl rfl ⟨⟨rfl, congrArg (fun z => some (([] : Path), dl (.int .i64 z))) hw⟩, ⟨rfl, rfl⟩, ⟨rfl, rfl⟩, ⟨rfl, rfl⟩, ⟨rfl, rfl⟩, trivial⟩ trivial
  · refine V_go (n := 1000) hT rfl ?_
    refine endsP rfl ?_
    have hi0 : i = l.length := by simp at hge; omega
    have : indexOK l = true := by
      unfold indexOK
      rw [← hinv, hc, hi0, List.drop_length]; rfl
    rw [this]; exact WkA.refl _

theorem index_find1 (key : ByteArray) (x : Entry) : Pure Tryz.prog 146 [bEntry x, bD (.eptr [.str key])] (dl (.bool (x.Key == key))) := by
  refine pure_intro hT Tryz.func146 rfl (by kernel_rfl) rfl rfl fun X _ => ?_
  refine V_go (n := 1000) hT rfl ?_
  exact endsP rfl (WkA.refl _)

theorem index_find (l : List Entry) (key : ByteArray) : Pure Tryz.prog 104 [bD (dEntries l), bD (.str key)] (dl (.int .i64 (idxOf (fun x => x.Key == key) l))) := by
  refine pure_intro hT Tryz.func104 rfl (by kernel_rfl) rfl rfl fun X hX => ?_
  refine V_go (n := 1000) hT rfl ?_
  refine VL_ghost hX (ghost_freeze 0 rfl) ?_
  refine VL_Y (n := 1000) hT (yl_makeFunc rfl rfl rfl rfl) rfl rfl rfl ?_
  refine VL_Y (n := 1000) hT (yl_pure (idx_Entry (f := 146) (first := []) (caps := [.eptr [.str key]]) (fun x => index_find1 key x) l) rfl rfl rfl) rfl rfl rfl ?_
  exact endsP rfl (WkA.refl _)

end Go.Cel

set_option linter.unusedVariables false
set_option maxRecDepth 100000
namespace Go.Cel
open Go.Proofs Go.IntWalk

def mayP (p : Part) : Bool := (decide (1 ≤ p.N) && decide (p.N ≤ 1000)) && decide ((p.Data.size : Int) ≤ 2000)
theorem parts_may (p : Part) : Pure Tryz.prog 88 [bPart p] (dl (.bool (mayP p))) := by
  refine pure_intro hT Tryz.func88 rfl (by kernel_rfl) rfl rfl fun X _ => ?_
  refine V_go (n := 1000) hT rfl ?_
  exact endsP rfl (WkA.refl _)

def numbered (id : Int) : Bool := decide (1 ≤ id) && decide (id ≤ 281474976710655)
theorem parts_numbered (id : Int) : Pure Tryz.prog 78 [bD (.int .u64 id)] (dl (.bool (numbered id))) := by
  refine pure_intro hT Tryz.func78 rfl (by kernel_rfl) rfl rfl fun X _ => ?_
  refine V_go (n := 1000) hT rfl ?_
  exact endsP rfl (WkA.refl _)

def prevN (l : List Part) (i : Nat) : Option Int := if i = 0 then none else some (l.getD (i - 1) default).N
def partBad (prev : Option Int) (p : Part) : Bool := !mayP p || (match prev with | some k => decide (p.N ≤ k) | none => false)
def partsGo : Option Int → List Part → Bool
  | _, [] => true
  | prev, p :: r => if partBad prev p then false else partsGo (some p.N) r
def fineU (u : Upload) : Bool := !((!numbered u.ID || !keyOK u.Key) || decide (30 < (u.L.length : Int))) && partsGo none u.L

theorem parts_fine (u : Upload) : Pure Tryz.prog 94 [bUpload u] (dl (.bool (fineU u))) := by
  refine pure_intro hT Tryz.func94 rfl (by kernel_rfl) rfl rfl fun X hX => ?_
  refine V_go (n := 1000) hT rfl ?_
  refine VL_Y (n := 1000) hT (yl_pure (parts_numbered u.ID) rfl rfl rfl) rfl rfl rfl ?_
  refine VL_Yp (n := 1000) hT rfl (yl_pure (name_Key u.Key) rfl rfl rfl) rfl rfl ?_
  refine V_cond rfl (fun hc => ?_) fun hc => ?_
  · refine V_go (n := 1000) hT rfl ?_
    refine endsP rfl ?_
    have : fineU u = false := by
      rw [List.length_map] at hc
      unfold fineU; rw [hc]; rfl
    rw [this]; exact WkA.refl _
  rw [List.length_map] at hc
  have hlen : u.L.length ≤ 30 := by
    simp at hc; omega
  refine V_go (n := 1000) hT rfl ?_
  refine V_loop hX (fun (i : Nat) => ⟨[(24, [], dl (.int .i64 i)), (23, [], dl (.int .i64 u.L.length)), (22, [], dl (dParts u.L)), (1, [], .b (.l (.ptr 0 0))), (2, [], dl (.bool false))], [(0, .cells [.d (.int .u64 u.ID), .d (.str u.Key), .d (dParts u.L)] 153)], 1, [], [], 49⟩)
    (fun i => i ≤ u.L.length ∧ partsGo (prevN u.L i) (u.L.drop i) = partsGo none u.L) (fun i => u.L.length - i) 0 ?_ ⟨Nat.zero_le _, by simp [prevN]⟩ fun i hx => ?_
  · exact ghost_of [(0, 0)] rfl rfl rfl rfl rfl ⟨⟨rfl, rfl⟩, ⟨rfl, congrArg (fun (n : Nat) => some (([] : Path), dl (.int .i64 n))) (List.length_map ..)⟩, ⟨rfl, rfl⟩, ⟨rfl, rfl⟩, ⟨rfl, rfl⟩, trivial⟩ ⟨rfl, trivial⟩
  obtain ⟨hi, hinv⟩ := hx
  refine V_go (n := 1000) hT rfl ?_
  refine V_cond rfl (fun hlt => ?_) fun hge => ?_
  · have hlt' : i < u.L.length := by simpa using hlt
    rw [drop_get hlt'] at hinv
    refine V_go (n := 1000) hT rfl ?_
    refine VL_Y (n := 1000) hT (yl_indexAddr (n := i) (cs := ePart (u.L.getD i default)) hT rfl rfl rfl rfl rfl rfl rfl (get_map hlt')) rfl rfl rfl ?_
    refine VD_start ?_
    refine VD_go hT rfl rfl ?_
    refine VD_Y hT rfl rfl rfl rfl (yl_pure (parts_may (u.L.getD i default)) rfl rfl rfl) rfl rfl rfl ?_
    refine VD_Y hT rfl rfl rfl rfl (Yl.given rfl fun h => yl_indexAddr (n := i - 1) (cs := ePart (u.L.getD (i - 1) default)) hT rfl rfl rfl rfl rfl rfl ?_ (get_map (by omega))) rfl rfl rfl ?_
    · have h1 : decide (0 < (i : Int)) = true := h.1
      show IntKind.i64.wrap ((i : Int) - 1) = _
      have := of_decide_eq_true h1
      rw [i64_in _ (by omega)]; omega
    refine VD_end (n := 1000) hT rfl (by kernel_rfl) (by kernel_rfl) rfl rfl rfl ?_
    have hbad : partBad (prevN u.L i) (u.L.getD i default) = (!mayP (u.L.getD i default) || (decide (0 < (i : Int)) && decide ((u.L.getD i default).N ≤ (u.L.getD (i - 1) default).N))) := by
      unfold partBad prevN
      by_cases h0 : i = 0
      · subst h0; rfl
      · have : (0 : Int) < i := by omega
        simp only [h0, if_false, this, decide_true, Bool.true_and]
    refine V_cond rfl (fun h1 => ?_) fun h1 => ?_
    · replace h1 := hbad.trans h1
      refine V_go (n := 1000) hT rfl ?_
      refine endsP rfl ?_
      have : fineU u = false := by
        unfold fineU
        rw [← hinv, partsGo, h1]; simp
      rw [this]; exact WkA.refl _
    · replace h1 := hbad.trans h1
      refine V_go (n := 1000) hT rfl ?_
      refine ⟨i + 1, ⟨hlt', ?_⟩, by omega, ?_⟩
      · rw [← hinv]
        have hp' : prevN u.L (i + 1) = some (u.L.getD i default).N := by simp [prevN]
        rw [hp']
        have e : ∀ r, partsGo (prevN u.L i) (u.L.getD i default :: r) = partsGo (some (u.L.getD i default).N) r := fun r => by
          conv => lhs; unfold partsGo
          rw [h1]; rfl
        exact (e _).symm
      · have hw := i64_succ (n := i) (by omega)
        exact ghost_of [(0, 0)] rfl rfl rfl rfl rfl ⟨⟨rfl, congrArg (fun z => some (([] : Path), dl (.int .i64 z))) hw⟩, ⟨rfl, rfl⟩, ⟨rfl, rfl⟩, ⟨rfl, rfl⟩, ⟨rfl, rfl⟩, trivial⟩ ⟨rfl, trivial⟩
  · refine V_go (n := 1000) hT rfl ?_
    refine endsP rfl ?_
    have hi0 : i = u.L.length := by simp at hge; omega
    have : fineU u = true := by
      unfold fineU
      rw [← hinv, hc, hi0, List.drop_length]; rfl
    rw [this]; exact WkA.refl _

def prevU (l : List Upload) (i : Nat) : Option Int := if i = 0 then none else some (l.getD (i - 1) default).ID
def uploadBad (prev : Option Int) (u : Upload) : Bool := !fineU u || (match prev with | some k => decide (u.ID ≤ k) | none => false)
def uploadsGo : Option Int → List Upload → Bool
  | _, [] => true
  | prev, u :: r => if uploadBad prev u then false else uploadsGo (some u.ID) r
def uploadsOK (l : List Upload) : Bool := !decide (10 < (l.length : Int)) && uploadsGo none l

theorem parts_Check (l : List Upload) : Pure Tryz.prog 68 [bD (dUploads l)] (dl (.int .i64 (errOf (uploadsOK l)))) := by
  refine pure_intro hT Tryz.func68 rfl (by kernel_rfl) rfl rfl fun X hX => ?_
  refine V_lenb (j := 0) rfl fun hlen _ => ?_
  simp only [List.length_map, maxLen] at hlen
  refine V_go (n := 1000) hT rfl ?_
  refine V_cond rfl (fun hc => ?_) fun hc => ?_
  · refine V_go (n := 1000) hT rfl ?_
    refine endsP rfl ?_
    have : uploadsOK l = false := by
      rw [List.length_map] at hc
      unfold uploadsOK; rw [hc]; rfl
    rw [this]; exact WkA.refl _
  rw [List.length_map] at hc
  refine V_go (n := 1000) hT rfl ?_
  refine V_loop hX (fun (i : Nat) => ⟨[(10, [], dl (.int .i64 i)), (9, [], dl (.int .i64 l.length)), (8, [], dl (dUploads l)), (0, [], dl (dUploads l)), (2, [], dl (.int .i64 0))], [], 0, [], [], 34⟩)
    (fun i => i ≤ l.length ∧ uploadsGo (prevU l i) (l.drop i) = uploadsGo none l) (fun i => l.length - i) 0 ?_ ⟨Nat.zero_le _, by simp [prevU]⟩ fun i hx => ?_
  · exact ghost_of [] rfl rfl rfl rfl rfl ⟨⟨rfl, rfl⟩, ⟨rfl, congrArg (fun (n : Nat) => some (([] : Path), dl (.int .i64 n))) (List.length_map ..)⟩, ⟨rfl, rfl⟩, ⟨rfl, rfl⟩, ⟨rfl, rfl⟩, trivial⟩ trivial
  obtain ⟨hi, hinv⟩ := hx
  refine V_go (n := 1000) hT rfl ?_
  refine V_cond rfl (fun hlt => ?_) fun hge => ?_
  · have hlt' : i < l.length := by simpa using hlt
    rw [drop_get hlt'] at hinv
    refine V_go (n := 1000) hT rfl ?_
    refine VL_Y (n := 1000) hT (yl_indexAddr (n := i) (cs := eUpload (l.getD i default)) hT rfl rfl rfl rfl rfl rfl rfl (get_map hlt')) rfl rfl rfl ?_
    refine VD_start ?_
    refine VD_go hT rfl rfl ?_
    refine VD_Y hT rfl rfl rfl rfl (yl_pure (parts_fine (l.getD i default)) rfl rfl rfl) rfl rfl rfl ?_
    refine VD_Y hT rfl rfl rfl rfl (Yl.given rfl fun h => yl_indexAddr (n := i - 1) (cs := eUpload (l.getD (i - 1) default)) hT rfl rfl rfl rfl rfl rfl ?_ (get_map (by omega))) rfl rfl rfl ?_
    · have h1 : decide (0 < (i : Int)) = true := h.1
      show IntKind.i64.wrap ((i : Int) - 1) = _
      have := of_decide_eq_true h1
      rw [i64_in _ (by omega)]; omega
    refine VD_end (n := 1000) hT rfl (by kernel_rfl) (by kernel_rfl) rfl rfl rfl ?_
    have hbad : uploadBad (prevU l i) (l.getD i default) = (!fineU (l.getD i default) || (decide (0 < (i : Int)) && decide ((l.getD i default).ID ≤ (l.getD (i - 1) default).ID))) := by
      unfold uploadBad prevU
      by_cases h0 : i = 0
      · subst h0; rfl
      · have : (0 : Int) < i := by omega
        simp only [h0, if_false, this, decide_true, Bool.true_and]
    refine V_cond rfl (fun h1 => ?_) fun h1 => ?_
    · replace h1 := hbad.trans h1
      refine V_go (n := 1000) hT rfl ?_
      refine endsP rfl ?_
      have : uploadsOK l = false := by
        unfold uploadsOK
        rw [← hinv, uploadsGo, h1]; simp
      rw [this]; exact WkA.refl _
    · replace h1 := hbad.trans h1
      refine V_go (n := 1000) hT rfl ?_
      refine ⟨i + 1, ⟨hlt', ?_⟩, by omega, ?_⟩
      · rw [← hinv]
        have hp' : prevU l (i + 1) = some (l.getD i default).ID := by simp [prevU]
        rw [hp']
        have e : ∀ r, uploadsGo (prevU l i) (l.getD i default :: r) = uploadsGo (some (l.getD i default).ID) r := fun r => by
          conv => lhs; unfold uploadsGo
          rw [h1]; rfl
        exact (e _).symm
      · have hw := i64_succ (n := i) (by omega)
        exact ghost_of [] rfl rfl rfl rfl rfl ⟨⟨rfl, congrArg (fun z => some (([] : Path), dl (.int .i64 z))) hw⟩, ⟨rfl, rfl⟩, ⟨rfl, rfl⟩, ⟨rfl, rfl⟩, ⟨rfl, rfl⟩, trivial⟩ trivial
  · refine V_go (n := 1000) hT rfl ?_
    refine endsP rfl ?_
    have hi0 : i = l.length := by simp at hge; omega
    have : uploadsOK l = true := by
      unfold uploadsOK
      rw [← hinv, hc, hi0, List.drop_length]; rfl
    rw [this]; exact WkA.refl _

end Go.Cel
