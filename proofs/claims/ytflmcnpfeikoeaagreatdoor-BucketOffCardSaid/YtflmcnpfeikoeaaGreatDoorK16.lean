/- CxW: a tag's text. -/
import Derived.Test.YtflmcnpfeikoeaaGreatDoorK15
import Derived.Test.YtflmcnpfeikoeaaGreatDoorK10
import Derived.Test.YtflmcnpfeikoeaaGreatDoorK11
set_option linter.unusedVariables false
set_option maxRecDepth 100000
set_option maxHeartbeats 4000000
namespace Go.Cel
open Go.Proofs Go.IntWalk

/-- a number's four octets. -/
def octC (c : Int) : List Int := [IntKind.u8.wrap (c.fdiv (2 ^ (min 24 IntKind.u32.bits))), IntKind.u8.wrap (c.fdiv (2 ^ (min 16 IntKind.u32.bits))), IntKind.u8.wrap (c.fdiv (2 ^ (min 8 IntKind.u32.bits))), IntKind.u8.wrap c]
theorem tag_octets (c : Int) : Pure Tryz.prog 142 [bD (.int .u32 c)] (dl (.str (strOfNums (octC c)))) := by
  refine pure_intro hT Tryz.func142 rfl (by kernel_rfl) rfl rfl fun X hX => ?_
  refine V_go (n := 1000) hT rfl ?_
  refine VL_T (n := 1000) hT 1 rfl (tl_buildSlice (n := 0) hT rfl rfl rfl rfl rfl rfl rfl rfl) rfl rfl rfl ?_
  refine VL_ghost hX (ghost_freeze 0 rfl) ?_
  refine VL_Y (n := 1000) hT (yl_octStr (zs := octC c) hT rfl rfl (by kernel_rfl) (by kernel_rfl) rfl rfl (by simp [octC]) rfl) rfl rfl rfl ?_
  exact endsP rfl (WkA.refl _)

/-- a list, laid element by element. -/
def fillL (n i : Nat) (f : Nat → D) (z : D) : List D := (List.range n).map fun j => if j < i then f j else z
theorem fillL_len (n i : Nat) (f : Nat → D) (z : D) : (fillL n i f z).length = n := by simp [fillL]
theorem fillL_set {n i : Nat} (f : Nat → D) (z : D) (h : i < n) : (fillL n i f z).set i (f i) = fillL n (i + 1) f z := by
  apply List.ext_getElem?
  intro j
  rw [List.getElem?_set]
  simp only [fillL, List.getElem?_map, List.length_map, List.length_range]
  by_cases e : i = j
  · subst e
    simp [h]
  · rw [if_neg e]
    by_cases hj : j < n
    · simp [hj]
      have : j < i ↔ j < i + 1 := by omega
      simp [this]
    · simp [hj]
theorem writeFill {n i : Nat} (f : Nat → D) (z : D) (h : i < n) : writeGo i [.d (f i)] ((fillL n i f z).map L.d) [] some = some ((fillL n (i + 1) f z).map L.d) := by
  rw [writeGo_set (by simpa [fillL_len] using h), ← fillL_set f z h, List.map_set]; rfl

abbrev hexS : ByteArray := "0123456789abcdef".toUTF8
/-- the digit at a place. -/
def nibC (c : Int) (i : Nat) : Int := IntKind.u32.wrap (BitVec.ofInt IntKind.u32.bits (c.fdiv (2 ^ (min (28 - 4 * i) IntKind.u32.bits))) &&& BitVec.ofInt IntKind.u32.bits 15).toNat
theorem nibC_lt (c : Int) (i : Nat) : nibC c i = ((nibC c i).toNat : Int) ∧ (nibC c i).toNat < 16 := by
  have h : (BitVec.ofInt IntKind.u32.bits (c.fdiv (2 ^ (min (28 - 4 * i) IntKind.u32.bits))) &&& BitVec.ofInt IntKind.u32.bits 15).toNat ≤ 15 := by
    rw [BitVec.toNat_and]; exact Nat.le_trans Nat.and_le_right (by decide)
  unfold nibC
  rw [IntKind.wrap_u32]
  omega
def hexC (c : Int) (i : Nat) : Int := ((bat hexS (nibC c i).toNat).toNat : Int)
def textC (c : Int) : ByteArray := strOfNums ((List.range 8).map (hexC c))
theorem zeroText : zeroNow Tryz.prog 244 (fillL 8 0 (fun i => D.int .u8 0) (.int .u8 0)) = true := by kernel_rfl
theorem fillL0 (n : Nat) (f g : Nat → D) (z : D) : fillL n 0 f z = fillL n 0 g z := by simp [fillL]

theorem tag_Text (c : Int) : Pure Tryz.prog 143 [bD (.int .u32 c)] (dl (.str (textC c))) := by
  refine pure_intro hT Tryz.func143 rfl (by kernel_rfl) rfl rfl fun X hX => ?_
  refine V_go (n := 1000) hT rfl ?_
  refine V_loop hX (fun (i : Nat) => ⟨[(5, [], dl (.int .i64 i)), (3, [], .b (.l (.ptr 0 0))), (0, [], dl (.int .u32 c)), (2, [], dl (.str ByteArray.empty))], [(0, .cells ((fillL 8 i (fun i => D.int .u8 (hexC c i)) (.int .u8 0)).map L.d) 244)], 1, [], [], 20⟩)
      (fun i => i ≤ 8) (fun i => 8 - i) 0 ?_ (Nat.zero_le _) fun i hi => ?_
  · exact ghost_of [(0, 0)] rfl rfl rfl rfl rfl ⟨⟨rfl, rfl⟩, ⟨rfl, rfl⟩, ⟨rfl, rfl⟩, ⟨rfl, rfl⟩, trivial⟩ ⟨by rw [renBlk_d]; rfl, trivial⟩
  refine V_go (n := 1000) hT rfl ?_
  refine V_cond rfl (fun hlt => ?_) fun hge => ?_
  · have hlt' : i < 8 := by simp at hlt; omega
    have hw := i64_succ (n := i) (by omega)
    refine V_go (n := 1000) hT rfl ?_
    refine VL_Y (n := 1000) hT (yl_shr (n := 28 - 4 * i) rfl rfl rfl (by simp only [IntKind.wrap_i64]; omega) rfl) rfl rfl rfl ?_
    refine VL_Y (n := 1000) hT (yl_index hT rfl rfl rfl rfl rfl (nibC_lt c i).1 (bat_get (nibC_lt c i).2)) rfl rfl rfl ?_
    refine VL_Ys (yl_indexAddrArr (n := 8) (e := 5) (j := i) (off := i) hT rfl rfl rfl rfl rfl rfl hlt' (by show i = 0 + i * 1; omega) rfl) rfl rfl ?_
    refine VL_T (n := 1000) hT 1 rfl (tl_store (x0 := .d (.int .u8 (hexC c i))) (new := []) hT rfl rfl rfl rfl rfl rfl rfl rfl (writeFill (fun i => D.int .u8 (hexC c i)) (.int .u8 0) hlt')) rfl rfl rfl ?_
    refine ⟨i + 1, by omega, by omega, ?_⟩
    exact ghost_of [(0, 0)] rfl rfl rfl rfl rfl ⟨⟨rfl, congrArg (fun z => some (([] : Path), dl (.int .i64 z))) hw⟩, ⟨rfl, rfl⟩, ⟨rfl, rfl⟩, ⟨rfl, rfl⟩, trivial⟩ ⟨congrArg some (renBlk_d _ _ _).symm, trivial⟩
  · have hi6 : i = 8 := by simp at hge; omega
    subst hi6
    refine V_ghost hX (ghost_freeze 0 rfl) ?_
    refine V_go (n := 1000) hT rfl ?_
    refine VL_Y (n := 1000) hT (yl_sliceArrE (n := 8) (e := 5) hT rfl rfl rfl (by kernel_rfl) rfl rfl (by decide) (by decide) rfl) rfl rfl rfl ?_
    refine VL_Y (n := 1000) hT (yl_octStr (zs := (List.range 8).map (hexC c)) hT rfl rfl (by kernel_rfl) (by kernel_rfl) rfl rfl (by simp) rfl) rfl rfl rfl ?_
    exact endsP rfl (WkA.refl _)

def digB : ByteArray := "0123456789abcdefghijklmnopqrstuvwxyz".toUTF8
def twoB : ByteArray := "00010203040506070809101112131415161718192021222324252627282930313233343536373839404142434445464748495051525354555657585960616263646566676869707172737475767778798081828384858687888990919293949596979899".toUTF8
/-- a small number's digits. -/
def itoaB (n : Nat) : ByteArray := if n < 10 then digB.extract n (n + 1) else twoB.extract (2 * n) (2 * n + 2)
theorem strconv_small (n : Nat) (hn : n < 100) : Pure Tryz.prog 180 [bD (.int .i64 n)] (dl (.str (itoaB n))) := by
  refine pure_intro hT Tryz.func180 rfl (by kernel_rfl) rfl rfl fun X hX => ?_
  refine V_go (n := 1000) hT rfl ?_
  refine V_cond rfl (fun h1 => ?_) fun h1 => ?_
  · have h1' : n < 10 := by simp at h1; omega
    refine V_go (n := 1000) hT rfl ?_
    refine VL_Y (n := 1000) hT (yl_sliceStr (b := digB) hT n (n + 1) rfl rfl (by kernel_rfl) rfl rfl rfl rfl (by show IntKind.i64.wrap _ = _; rw [IntKind.wrap_i64]; omega) (by omega) (by show n + 1 ≤ 36; omega)) rfl rfl rfl ?_
    unfold itoaB; rw [if_pos h1']
    exact endsP rfl (WkA.refl _)
  · have h1' : ¬ n < 10 := by simp at h1; omega
    refine V_go (n := 1000) hT rfl ?_
    refine VL_Y (n := 1000) hT (yl_sliceStr (b := twoB) hT (2 * n) (2 * n + 2) rfl rfl (by kernel_rfl) rfl rfl rfl (by show IntKind.i64.wrap _ = _; rw [IntKind.wrap_i64]; omega) (by show IntKind.i64.wrap _ = _; simp only [IntKind.wrap_i64]; omega) (by omega) (by show 2 * n + 2 ≤ 200; omega)) rfl rfl rfl ?_
    unfold itoaB; rw [if_neg h1']
    exact endsP rfl (WkA.refl _)
end Go.Cel

set_option linter.unusedVariables false
set_option maxRecDepth 100000
set_option maxHeartbeats 4000000
namespace Go.Cel
open Go.Proofs Go.IntWalk

theorem yl_addStr {P : Program} {r : St} {p : Path} {o : Oper} {t : Nat} {x y : Operand} {t' : TypeId} {b c : ByteArray} (ho : o.op = .binOp .add t x y t') (hx : ev r p x = some (dl (.str b))) (hy : ev r p y = some (dl (.str c))) (hsz : b.size + c.size ≤ 1000000) (hp : pin r p = true) : Yl P o r p (dl (.str (b ++ c))) := by
  refine .of hp fun X ρ M a W g hh => ?_
  have hxe := den_str (ev_den hx g hh)
  have hye := den_str (ev_den hy g hh)
  refine ⟨.string (b ++ c), ?_, .str _⟩
  have h1 : ¬ (IntKind.i64.max < ((b.size + c.size : Nat) : Int)) := by
    rw [show IntKind.i64.max = 9223372036854775807 from rfl]; omega
  have h2 : (Op.stringOp .add b c).run P W = .ok (.string (b ++ c)) W := by
    unfold Op.stringOp
    simp only [gt_iff_lt, h1, if_false]
    rfl
  simp [execOp, ho, hxe, hye, eqGuard, binOp, h2]

theorem textC_size (c : Int) : (textC c).size = 8 := rfl
theorem itoaB_size (n : Nat) : (itoaB n).size ≤ 2 := by
  unfold itoaB
  split <;> simp only [ByteArray.size_extract] <;> omega

theorem strconv_FormatInt (n : Nat) (hn : n < 100) : Pure Tryz.prog 176 [bD (.int .i64 n), bD (.int .i64 10)] (dl (.str (itoaB n))) := by
  refine pure_intro hT Tryz.func176 rfl (by kernel_rfl) rfl rfl fun X hX => ?_
  refine V_go (n := 1000) hT rfl ?_
  refine V_condT rfl rfl ?_
  refine V_go (n := 1000) hT rfl ?_
  refine V_condT rfl (by show (decide ((0 : Int) ≤ (n : Int)) && decide ((n : Int) < 100)) = true; simp; omega) ?_
  refine V_go (n := 1000) hT rfl ?_
  refine VL_Y (n := 1000) hT (yl_pure (strconv_small n hn) rfl rfl rfl) rfl rfl rfl ?_
  exact endsP rfl (WkA.refl _)
theorem istrconv_Itoa (n : Nat) (hn : n < 100) : Pure Tryz.prog 168 [bD (.int .i64 n)] (dl (.str (itoaB n))) := by
  refine pure_intro hT Tryz.func168 rfl (by kernel_rfl) rfl rfl fun X hX => ?_
  refine V_go (n := 1000) hT rfl ?_
  refine VL_Y (n := 1000) hT (yl_pure (strconv_FormatInt n hn) rfl rfl rfl) rfl rfl rfl ?_
  exact endsP rfl (WkA.refl _)
theorem strconv_Itoa (n : Nat) (hn : n < 100) : Pure Tryz.prog 144 [bD (.int .i64 n)] (dl (.str (itoaB n))) := by
  refine pure_intro hT Tryz.func144 rfl (by kernel_rfl) rfl rfl fun X hX => ?_
  refine V_go (n := 1000) hT rfl ?_
  refine VL_Y (n := 1000) hT (yl_pure (istrconv_Itoa n hn) rfl rfl rfl) rfl rfl rfl ?_
  exact endsP rfl (WkA.refl _)

/-- the tags' own tag. -/
def manyC : List Int → Int → Int
  | [], c => c
  | t :: r, c => manyC r (notC (moreT (strOfNums (octC t)) 4 (notC c)))
theorem manyC_take {l : List Int} {i : Nat} (h : i < l.length) (c : Int) : manyC (l.take (i + 1)) c = notC (moreT (strOfNums (octC (l.getD i 0))) 4 (notC (manyC (l.take i) c))) := by
  induction l generalizing i c with
  | nil => simp at h
  | cons t r ih =>
    cases i with
    | zero => simp [manyC]
    | succ i =>
      have := ih (i := i) (by simpa using h) (notC (moreT (strOfNums (octC t)) 4 (notC c)))
      simp only [List.take_succ_cons, manyC, this]
      simp
def manyT (l : List Int) : ByteArray := textC (manyC l 0) ++ "-".toUTF8 ++ itoaB l.length
abbrev dTags (l : List Int) : D := .seq 36 (l.map fun t => [D.int .u32 t])

theorem tag_Many (l : List Int) (h0 : l ≠ []) (h1 : l.length < 100) : Pure Tryz.prog 100 [bD (dTags l)] (.tup [.l (.d (.str (manyT l))), .l (.d (.int .i64 0))]) := by
  refine pure_intro hT Tryz.func100 rfl (by kernel_rfl) rfl rfl fun X hX => ?_
  refine V_go (n := 1000) hT rfl ?_
  have hpos : 0 < l.length := List.length_pos_iff.2 h0
  refine V_condF rfl (by show (decide _ || decide _) = false; simp [h0]; omega) ?_
  refine V_go (n := 1000) hT rfl ?_
  refine V_loop hX (fun (i : Nat) => ⟨[(17, [], dl (.int .i64 i)), (16, [], dl (.int .i64 l.length)), (15, [], dl (dTags l)), (0, [], dl (dTags l)), (4, [], dl (.int .u32 (manyC (l.take i) 0)))], [], 0, [], [], 33⟩)
      (fun i => i ≤ l.length) (fun i => l.length - i) 0 ?_ (Nat.zero_le _) fun i hi => ?_
  · exact ghost_of [] rfl rfl rfl rfl rfl ⟨⟨rfl, rfl⟩, ⟨rfl, congrArg (fun (n : Nat) => some (([] : Path), dl (.int .i64 n))) (List.length_map ..)⟩, ⟨rfl, rfl⟩, ⟨rfl, rfl⟩, ⟨rfl, rfl⟩, trivial⟩ trivial
  refine V_go (n := 1000) hT rfl ?_
  refine V_cond rfl (fun hlt => ?_) fun hge => ?_
  · have hlt' : i < l.length := by simpa using hlt
    have hw := i64_succ (n := i) (by omega)
    refine V_go (n := 1000) hT rfl ?_
    refine VL_Y (n := 1000) hT (yl_indexAddr (n := i) (cs := [.int .u32 (l.getD i 0)]) hT rfl rfl rfl rfl rfl rfl rfl (get_map hlt')) rfl rfl rfl ?_
    refine VL_Y (n := 1000) hT (yl_pure (tag_octets (l.getD i 0)) rfl rfl rfl) rfl rfl rfl ?_
    refine VL_Y (n := 1000) hT (yl_pure (tag_More (manyC (l.take i) 0) (strOfNums (octC (l.getD i 0))) (by show 4 < _; omega)) rfl rfl rfl) rfl rfl rfl ?_
    refine ⟨i + 1, hlt', by omega, ?_⟩
    exact ghost_of [] rfl rfl rfl rfl rfl ⟨⟨rfl, congrArg (fun z => some (([] : Path), dl (.int .i64 z))) hw⟩, ⟨rfl, rfl⟩, ⟨rfl, rfl⟩, ⟨rfl, rfl⟩, ⟨rfl, congrArg (fun z => some (([] : Path), dl (.int .u32 z))) (manyC_take hlt' 0).symm⟩, trivial⟩ trivial
  · have hi6 : i = l.length := by simp at hge; omega
    subst hi6
    refine V_go (n := 1000) hT rfl ?_
    refine VL_Y (n := 1000) hT (yl_pure (tag_Text (manyC (l.take l.length) 0)) rfl rfl rfl) rfl rfl rfl ?_
    refine VL_Y (n := 1000) hT (yl_addStr rfl rfl rfl (by rw [textC_size]; decide) rfl) rfl rfl rfl ?_
    have hl : (l.map fun t => [D.int .u32 t]).length = l.length := List.length_map ..
    refine VL_Y (n := 1000) hT (yl_pure (args := [bD (.int .i64 ((l.map fun t => [D.int .u32 t]).length : Nat))]) (by rw [hl]; exact strconv_Itoa l.length h1) rfl rfl rfl) rfl rfl rfl ?_
    refine VL_Y (n := 1000) hT (yl_addStr rfl rfl rfl (by have := itoaB_size l.length; rw [ByteArray.size_append, textC_size]; show 8 + 1 + _ ≤ _; omega) rfl) rfl rfl rfl ?_
    rw [List.take_length]
    exact endsP rfl (WkA.refl _)
end Go.Cel

set_option linter.unusedVariables false
set_option maxRecDepth 100000
set_option maxHeartbeats 4000000
namespace Go.Cel
open Go.Proofs Go.IntWalk

abbrev bNew : List (Nat × Blk) := [(0, .cells [.d .nilp, .d .nilsl] 159)]
abbrev bUsed : List (Nat × Blk) := [(0, .cells [.ptr 0 0, .d .nilsl] 159)]
abbrev bRow (s : ByteArray) : List (Nat × Blk) := [(0, .cells [.ptr 0 0, .orow 1] 159), (1, .row 5 (octs s))]

abbrev bRow2 (s : ByteArray) : List (Nat × Blk) := [(0, .cells [.ptr 0 0, .orow 2] 159), (2, .row 5 (octs s))]
theorem x167n : Extern.findNext Tryz.f167 = none := by kernel_rfl
theorem x167 : Extern.find Tryz.f167 = some Extern.AbiNoEscape.same := by kernel_rfl
theorem bldLies : liesAt Tryz.prog Tryz.prog.depth 159 (2 / Tryz.prog.cellsOf 159) 0 159 1 = true := by kernel_rfl
theorem bldInfo : (Tryz.prog.info? 159).isSome = true := by kernel_rfl

theorem builder_copyCheckN : Con Tryz.prog 141 bNew 1 [.l (.ptr 0 0)] fun r o nx => r = .tup [] ∧ o = bUsed ∧ nx = 1 := by
  refine con_intro hT Tryz.func141 rfl (by kernel_rfl) rfl fun X hX => ?_
  obtain ⟨j, hj⟩ := Option.isSome_iff_exists.1 bldInfo
  refine V_go (n := 1000) hT rfl ?_
  refine VL_Y (n := 1000) hT (yl_eqNil (te := 159) rfl (by kernel_rfl) rfl rfl) rfl rfl rfl ?_
  refine V_condT rfl rfl ?_
  refine V_go (n := 1000) hT rfl ?_
  refine VL_Y (n := 1000) hT (yl_toUnsafe (t := 159) rfl (by kernel_rfl) (by kernel_rfl) (by kernel_rfl) rfl rfl rfl rfl) rfl rfl rfl ?_
  refine VL_Y (n := 1000) hT (yl_noEscape rfl rfl Tryz.func167 (by kernel_rfl) rfl x167n x167 rfl rfl) rfl rfl rfl ?_
  refine VL_Y (n := 1000) hT (yl_fromUnsafe (u := 159) rfl (by kernel_rfl) (by kernel_rfl) hj rfl rfl bldLies rfl) rfl rfl rfl ?_
  exact ⟨.inl rfl, _, _, bUsed, Ghost.refl _ _, rfl, fun x hx => hx, rfl, rfl, rfl⟩
theorem builder_copyCheckR (s : ByteArray) : Con Tryz.prog 141 (bRow s) 2 [.l (.ptr 0 0)] fun r o nx => r = .tup [] ∧ o = bRow s ∧ nx = 2 := by
  refine con_intro hT Tryz.func141 rfl (by kernel_rfl) rfl fun X hX => ?_
  obtain ⟨j, hj⟩ := Option.isSome_iff_exists.1 bldInfo
  refine V_go (n := 1000) hT rfl ?_
  refine VL_Y (n := 1000) hT (yl_eqNilF (te := 159) rfl (by kernel_rfl) rfl rfl) rfl rfl rfl ?_
  refine V_condF rfl rfl ?_
  refine V_go (n := 1000) hT rfl ?_
  refine VL_Y (n := 1000) hT (yl_neSelf (te := 159) rfl (by kernel_rfl) hj rfl rfl rfl) rfl rfl rfl ?_
  refine V_condF rfl rfl ?_
  refine V_go (n := 1000) hT rfl ?_
  exact ⟨.inl rfl, _, _, bRow s, Ghost.refl _ _, rfl, fun x hx => hx, rfl, rfl, rfl⟩

abbrev rWrite (t : ByteArray) : A := .tup [.l (.d (.int .i64 (t.size : Int))), .l (.d .nilif)]
theorem builder_WriteN (t : ByteArray) (ht : t.size ≤ 1000000) : Con Tryz.prog 98 bNew 1 [.l (.ptr 0 0), bD (.str t)] fun r o nx => r = rWrite t ∧ o = bRow t ∧ nx = 2 := by
  refine con_intro hT Tryz.func98 rfl (by kernel_rfl) rfl fun X hX => ?_
  refine V_go (n := 1000) hT rfl ?_
  refine VL_T (n := 1000) hT 1 rfl (tl_call [(0, 0)] [] builder_copyCheckN rfl rfl rfl rfl ⟨rfl, trivial⟩ rfl (full_of rfl) rfl rfl rfl rfl) rfl rfl rfl ?_
  refine VL_T (n := 1000) hT 2 rfl (tl_appendStr (n := 1) (s := t) (ds := []) (del := []) hT rfl rfl rfl rfl rfl rfl rfl rfl (by kernel_rfl) rfl rfl (by show 0 + t.size ≤ 140737488355328; omega)) rfl rfl rfl ?_
  exact ⟨.inr rfl, _, _, bRow t, Ghost.refl _ _, rfl, by simp [bRow], rfl, rfl, rfl⟩
theorem builder_WriteR (s t : ByteArray) (ht : s.size + t.size ≤ 1000000) : Con Tryz.prog 98 (bRow s) 2 [.l (.ptr 0 0), bD (.str t)] fun r o nx => r = rWrite t ∧ o = bRow2 (s ++ t) ∧ nx = 3 := by
  refine con_intro hT Tryz.func98 rfl (by kernel_rfl) rfl fun X hX => ?_
  refine V_go (n := 1000) hT rfl ?_
  refine VL_T (n := 1000) hT 2 rfl (tl_call [(0, 0), (1, 1)] [] (builder_copyCheckR s) rfl rfl rfl rfl ⟨rfl, rfl, trivial⟩ rfl (full_of rfl) rfl rfl rfl rfl) rfl rfl rfl ?_
  refine VL_T (n := 1000) hT 3 rfl (tl_appendStr (n := 2) (s := t) (ds := octs s) (del := [1]) hT rfl rfl rfl rfl rfl rfl rfl rfl (by kernel_rfl) rfl rfl (by rw [octs_length]; show s.size + t.size ≤ 140737488355328; omega)) rfl rfl rfl ?_
  exact ⟨.inr rfl, _, _, bRow2 (s ++ t), Ghost.refl _ _, rfl, by simp [bRow2, octs_append], rfl, rfl, rfl⟩

theorem builder_Len (s : ByteArray) : Con Tryz.prog 99 (bRow s) 2 [.l (.ptr 0 0)] fun r o nx => r = dl (.int .i64 (s.size : Int)) ∧ o = bRow s ∧ nx = 2 := by
  refine con_intro hT Tryz.func99 rfl (by kernel_rfl) rfl fun X hX => ?_
  refine V_go (n := 1000) hT rfl ?_
  exact ⟨.inr rfl, _, _, bRow s, Ghost.refl _ _, rfl, by simp [bRow], by rw [← octs_length], rfl, rfl⟩

theorem builder_String (s : ByteArray) (h0 : s.size ≠ 0) (h1 : s.size ≤ 1000000) : Con Tryz.prog 101 (bRow s) 2 [.l (.ptr 0 0)] fun r o nx => r = dl (.str s) ∧ o = [] ∧ nx = 2 := by
  obtain ⟨c0, es, hcs⟩ : ∃ c0 es, octs s = c0 :: es := by
    cases h : octs s with
    | nil => have := octs_length s; rw [h] at this; exact absurd this.symm h0
    | cons c0 es => exact ⟨c0, es, rfl⟩
  refine con_intro hT Tryz.func101 rfl (by kernel_rfl) rfl fun X hX => ?_
  refine V_go (n := 1000) hT rfl ?_
  refine VD_start ?_
  refine VD_go hT rfl rfl ?_
  refine VD_Y hT rfl rfl rfl rfl (yl_sliceData (t := 0) (c0 := c0) (es := es) rfl rfl rfl (by rw [← hcs]; rfl) rfl) rfl rfl rfl ?_
  refine VD_T (os := [7, 12]) (gs := []) (ids := [1]) (σ := ⟨[7, 12], [13], [1], [1], []⟩) hT rfl rfl (tl_unsafeString (s := s) hT rfl rfl rfl (by kernel_rfl) (by kernel_rfl) rfl rfl rfl rfl (congrArg (fun (n : Nat) => some (dl (.int .i64 n))) (octs_length s)) h0 (by omega)) rfl rfl 2 rfl rfl ?_
  refine VD_end (n := 1000) hT rfl (by kernel_rfl) (by kernel_rfl) rfl rfl rfl ?_
  trace_state
  exact ⟨.inr rfl, _, _, [], Ghost.refl _ _, rfl, by simp, rfl, rfl, rfl⟩
end Go.Cel

set_option linter.unusedVariables false
set_option maxRecDepth 100000
set_option maxHeartbeats 4000000
namespace Go.Cel
open Go.Proofs Go.IntWalk

theorem mem_getD {α : Type} [Inhabited α] {l : List α} {i : Nat} (h : i < l.length) : l.getD i default ∈ l := by
  rw [List.getD_eq_getElem?_getD, List.getElem?_eq_getElem h]; exact List.getElem_mem h
theorem idxIn_Part {f : FuncId} {first caps : List D} {q : Part → Bool} (l : List Part) (hq : ∀ x, x ∈ l → Pure Tryz.prog f (first.map bD ++ ([bPart x] ++ caps.map bD)) (dl (.bool (q x)))) :
    Pure Tryz.prog 166 [bD (dParts l), bD (.fn f first caps)] (dl (.int .i64 (idxOf q l))) := by
  refine pure_intro hT Tryz.func166 rfl (by kernel_rfl) rfl rfl fun X hX => ?_
  refine V_lenb (j := 0) rfl fun hlen _ => ?_
  simp only [List.length_map, maxLen] at hlen
  refine V_go (n := 1000) hT rfl ?_
  refine V_loop hX (fun (i : Nat) => ⟨[(8, [], dl (.int .i64 i)), (7, [], dl (.int .i64 l.length)), (1, [], dl (.fn f first caps)), (0, [], dl (dParts l)), (4, [], dl (.int .i64 0))], [], 0, [], [], 19⟩)
    (fun i => i ≤ l.length ∧ ∀ j, j < i → q (l.getD j default) = false) (fun i => l.length - i) 0 ?_ ⟨Nat.zero_le _, fun j h => by omega⟩ fun i hi => ?_
  · exact ghost_of [] rfl rfl rfl rfl rfl ⟨⟨rfl, rfl⟩, ⟨rfl, congrArg (fun (n : Nat) => some (([] : Path), dl (.int .i64 n))) (List.length_map ..)⟩, ⟨rfl, rfl⟩, ⟨rfl, rfl⟩, ⟨rfl, rfl⟩, trivial⟩ trivial
  refine V_go (n := 1000) hT rfl ?_
  refine V_cond rfl (fun hlt => ?_) fun hge => ?_
  · have hlt' : i < l.length := by simpa using hlt
    refine V_go (n := 1000) hT rfl ?_
    refine VL_Y (n := 1000) hT (yl_indexAddr (n := i) (cs := ePart (l.getD i default)) hT rfl rfl rfl rfl rfl rfl rfl (get_map hlt')) rfl rfl rfl ?_
    refine VL_Y (n := 1000) hT (yl_pure (hq (l.getD i default) (mem_getD hlt')) rfl rfl (noOwn_fn rfl)) rfl rfl rfl ?_
    refine V_cond rfl (fun hb => ?_) fun hb => ?_
    · refine V_go (n := 1000) hT rfl ?_
      refine endsP rfl ?_
      rw [idxOf_some hlt' hi.2 hb]; exact WkA.refl _
    · refine V_go (n := 1000) hT rfl ?_
      refine ⟨i + 1, ⟨hlt', fun j hj => ?_⟩, by omega, ?_⟩
      · rcases Nat.lt_succ_iff_lt_or_eq.1 hj with h | rfl
        · exact hi.2 j h
        · exact hb
      · have hw := i64_succ (n := i) (by omega)
        exact ghost_of [] rfl rfl rfl rfl rfl ⟨⟨rfl, congrArg (fun z => some (([] : Path), dl (.int .i64 z))) hw⟩, ⟨rfl, rfl⟩, ⟨rfl, rfl⟩, ⟨rfl, rfl⟩, ⟨rfl, rfl⟩, trivial⟩ trivial
  · refine V_go (n := 1000) hT rfl ?_
    refine endsP rfl ?_
    have hi0 : i = l.length := by have := hi.1; simp at hge; omega
    rw [idxOf_none (hi0 ▸ hi.2)]; exact WkA.refl _

theorem hasIn_Part {f : FuncId} {first caps : List D} {q : Part → Bool} (l : List Part) (hq : ∀ x, x ∈ l → Pure Tryz.prog f (first.map bD ++ ([bPart x] ++ caps.map bD)) (dl (.bool (q x)))) :
    Pure Tryz.prog 139 [bD (dParts l), bD (.fn f first caps)] (dl (.bool (l.any q))) := by
  refine pure_intro hT Tryz.func139 rfl (by kernel_rfl) rfl rfl fun X hX => ?_
  refine V_go (n := 1000) hT rfl ?_
  refine VL_Y (n := 1000) hT (yl_pure (idxIn_Part l hq) rfl rfl rfl) rfl rfl rfl ?_
  refine endsP rfl ?_
  show WkA (dl (.bool (decide (0 ≤ idxOf q l)))) _
  rw [idxOf_any]; exact WkA.refl _


def lkP (p : Piece) (q : Part) : Bool := (q.N == p.N) && (ofT q.Data == p.Tag)
theorem upload_lacks1 (p : Piece) (q : Part) (hq : q.Data.size < 4611686018427387904) : Pure Tryz.prog 140 [bPart q, bD (.eptr (ePiece p))] (dl (.bool (lkP p q))) := by
  refine pure_intro hT Tryz.func140 rfl (by kernel_rfl) rfl rfl fun X hX => ?_
  refine V_go (n := 1000) hT rfl ?_
  refine VD_start ?_
  refine VD_go hT rfl rfl ?_
  refine VD_Y hT rfl rfl rfl rfl (yl_pure (tag_Of q.Data hq) rfl rfl rfl) rfl rfl rfl ?_
  refine VD_end (n := 1000) hT rfl (by kernel_rfl) (by kernel_rfl) rfl rfl rfl ?_
  exact endsP rfl (WkA.refl _)

def lacksU (u : Upload) (p : Piece) : Bool := !(u.L.any (lkP p))
theorem upload_lacks (u : Upload) (p : Piece) (hu : ∀ q, q ∈ u.L → q.Data.size < 4611686018427387904) : Pure Tryz.prog 96 [bUpload u, bPiece p] (dl (.bool (lacksU u p))) := by
  refine pure_intro hT Tryz.func96 rfl (by kernel_rfl) rfl rfl fun X hX => ?_
  refine V_go (n := 1000) hT rfl ?_
  refine VL_ghost hX (ghost_freeze 1 rfl) ?_
  refine VL_Y (n := 1000) hT (yl_makeFunc rfl rfl rfl rfl) rfl rfl rfl ?_
  refine VL_Y (n := 1000) hT (yl_pure (hasIn_Part (f := 140) (first := []) (caps := [.eptr (ePiece p)]) (q := lkP p) u.L fun x hx => upload_lacks1 p x (hu x hx)) rfl rfl rfl) rfl rfl rfl ?_
  exact endsP rfl (WkA.refl _)

/-- the octets of a number: the last that there is. -/
def dataGo (n : Int) (l : List Part) (d : ByteArray) : ByteArray :=
  match l with
  | [] => d
  | q :: r => dataGo n r (if q.N == n then q.Data else d)
theorem dataGo_take {n : Int} {l : List Part} {i : Nat} (h : i < l.length) (d : ByteArray) : dataGo n (l.take (i + 1)) d = if (l.getD i default).N == n then (l.getD i default).Data else dataGo n (l.take i) d := by
  induction l generalizing i d with
  | nil => simp at h
  | cons t r ih =>
    cases i with
    | zero => simp [dataGo]
    | succ i =>
      have := ih (i := i) (by simpa using h) (if t.N == n then t.Data else d)
      simp only [List.take_succ_cons, dataGo, this]
      simp
theorem upload_data (u : Upload) (n : Int) : Pure Tryz.prog 97 [bUpload u, bD (.int .i64 n)] (dl (.str (dataGo n u.L ByteArray.empty))) := by
  refine pure_intro hT Tryz.func97 rfl (by kernel_rfl) rfl rfl fun X hX => ?_
  refine V_go (n := 1000) hT rfl ?_
  refine V_lenb (j := 9) rfl fun hlen _ => ?_
  simp only [List.length_map, maxLen] at hlen
  refine V_loop hX (fun (i : Nat) => ⟨[(11, [], dl (.int .i64 i)), (10, [], dl (.int .i64 u.L.length)), (9, [], dl (dParts u.L)), (5, [], dl (.str (dataGo n (u.L.take i) ByteArray.empty))), (1, [], dl (.int .i64 n)), (4, [], dl (.str ByteArray.empty))], [], 0, [], [], 23⟩)
      (fun i => i ≤ u.L.length) (fun i => u.L.length - i) 0 ?_ (Nat.zero_le _) fun i hi => ?_
  · exact ghost_of [] rfl rfl rfl rfl rfl ⟨⟨rfl, rfl⟩, ⟨rfl, congrArg (fun (n : Nat) => some (([] : Path), dl (.int .i64 n))) (List.length_map ..)⟩, ⟨rfl, rfl⟩, ⟨rfl, rfl⟩, ⟨rfl, rfl⟩, ⟨rfl, rfl⟩, trivial⟩ trivial
  refine V_go (n := 1000) hT rfl ?_
  refine V_cond rfl (fun hlt => ?_) fun hge => ?_
  · have hlt' : i < u.L.length := by simpa using hlt
    have hw := i64_succ (n := i) (by omega)
    refine V_go (n := 1000) hT rfl ?_
    refine VL_Y (n := 1000) hT (yl_indexAddr (n := i) (cs := ePart (u.L.getD i default)) hT rfl rfl rfl rfl rfl rfl rfl (get_map hlt')) rfl rfl rfl ?_
    refine V_cond rfl (fun hb => ?_) fun hb => ?_
    · refine V_go (n := 1000) hT rfl ?_
      refine ⟨i + 1, hlt', by omega, ?_⟩
      have hd := dataGo_take (n := n) hlt' ByteArray.empty
      rw [if_pos hb] at hd
      exact ghost_of [] rfl rfl rfl rfl rfl ⟨⟨rfl, congrArg (fun z => some (([] : Path), dl (.int .i64 z))) hw⟩, ⟨rfl, rfl⟩, ⟨rfl, rfl⟩, ⟨rfl, congrArg (fun z => some (([] : Path), dl (.str z))) hd.symm⟩, ⟨rfl, rfl⟩, ⟨rfl, rfl⟩, trivial⟩ trivial
    · refine V_go (n := 1000) hT rfl ?_
      refine ⟨i + 1, hlt', by omega, ?_⟩
      have hd := dataGo_take (n := n) hlt' ByteArray.empty
      rw [if_neg (by rw [hb]; simp)] at hd
      exact ghost_of [] rfl rfl rfl rfl rfl ⟨⟨rfl, congrArg (fun z => some (([] : Path), dl (.int .i64 z))) hw⟩, ⟨rfl, rfl⟩, ⟨rfl, rfl⟩, ⟨rfl, congrArg (fun z => some (([] : Path), dl (.str z))) hd.symm⟩, ⟨rfl, rfl⟩, ⟨rfl, rfl⟩, trivial⟩ trivial
  · have hi6 : i = u.L.length := by simp at hge; omega
    subst hi6
    refine V_go (n := 1000) hT rfl ?_
    refine endsP rfl ?_
    rw [List.take_length]; exact WkA.refl _
end Go.Cel

set_option linter.unusedVariables false
set_option maxRecDepth 100000
set_option maxHeartbeats 4000000
namespace Go.Cel
open Go.Proofs Go.IntWalk

def dataW (u : Upload) (w : Piece) : ByteArray := dataGo w.N u.L ByteArray.empty
def catW (u : Upload) : List Piece → ByteArray
  | [] => ByteArray.empty
  | w :: r => dataW u w ++ catW u r
theorem catW_append (u : Upload) (a b : List Piece) : catW u (a ++ b) = catW u a ++ catW u b := by
  induction a with
  | nil => simp [catW]
  | cons w r ih => simp [catW, ih, ByteArray.append_assoc]
theorem catW_take (u : Upload) {ws : List Piece} {i : Nat} (h : i < ws.length) : catW u (ws.take (i + 1)) = catW u (ws.take i) ++ dataW u (ws.getD i default) := by
  rw [List.take_succ_eq_append_getElem h, catW_append]
  simp [catW, List.getD_eq_getElem?_getD, h]
theorem partsGo_small : ∀ {l : List Part} {prev : Option Int}, partsGo prev l = true → ∀ q, q ∈ l → q.Data.size ≤ 2000
  | [], _, _, q, hq => by cases hq
  | p :: r, prev, h, q, hq => by
    simp only [partsGo] at h
    split at h
    · cases h
    · rename_i hb
      rcases List.mem_cons.1 hq with rfl | hq
      · unfold partBad mayP at hb
        simp at hb
        have := hb.1.2; omega
      · exact partsGo_small h q hq
theorem fineU_small {u : Upload} (h : fineU u = true) : ∀ q, q ∈ u.L → q.Data.size ≤ 2000 := by
  unfold fineU at h
  rw [Bool.and_eq_true] at h
  exact partsGo_small h.2
theorem dataGo_small {n : Int} : ∀ {l : List Part} {d : ByteArray}, (∀ q, q ∈ l → q.Data.size ≤ 2000) → d.size ≤ 2000 → (dataGo n l d).size ≤ 2000
  | [], d, _, hd => hd
  | q :: r, d, h, hd => by
    simp only [dataGo]
    refine dataGo_small (fun x hx => h x (List.mem_cons_of_mem _ hx)) ?_
    split
    · exact h q (List.mem_cons_self ..)
    · exact hd
theorem dataW_small {u : Upload} (h : fineU u = true) (w : Piece) : (dataW u w).size ≤ 2000 := dataGo_small (fineU_small h) (by decide)
theorem catW_small {u : Upload} (h : fineU u = true) : ∀ ws : List Piece, (catW u ws).size ≤ 2000 * ws.length
  | [] => by simp [catW]
  | w :: r => by
    have := catW_small h r
    have := dataW_small h w
    simp only [catW, ByteArray.size_append, List.length_cons]; omega

def badW (ws : List Piece) (j : Nat) : Bool := decide ((ws.getD (j + 1) default).N ≤ (ws.getD j default).N)
def shortW (u : Upload) (ws : List Piece) (j : Nat) : Bool := decide ((j : Int) < (ws.length : Int) - 1) && decide (((dataW u (ws.getD j default)).size : Int) < 5)
def wholeU (u : Upload) (ws : List Piece) : ByteArray × ByteArray × Int :=
  if !fineU u || ws.length == 0 then (ByteArray.empty, ByteArray.empty, 1)
  else if (List.range (ws.length - 1)).any (badW ws) then (ByteArray.empty, ByteArray.empty, 9)
  else if ws.any (lacksU u) then (ByteArray.empty, ByteArray.empty, 4)
  else if (List.range ws.length).any (shortW u ws) then (ByteArray.empty, ByteArray.empty, 3)
  else if (2000 : Int) < (catW u ws).size then (ByteArray.empty, ByteArray.empty, 6)
  else (catW u ws, manyT (ws.map Piece.Tag), 0)
abbrev rWhole (x : ByteArray × ByteArray × Int) : A := .tup [.l (.d (.str x.1)), .l (.d (.str x.2.1)), .l (.d (.int .i64 x.2.2))]

abbrev tagRow (ws : List Piece) : List (List D) := (ws.map Piece.Tag).map fun t => [D.int .u32 t]
theorem tagRow_take {ws : List Piece} {i : Nat} (h : i < ws.length) : tagRow (ws.take i) ++ [[D.int .u32 (ws.getD i default).Tag]] = tagRow (ws.take (i + 1)) := by
  unfold tagRow
  rw [List.take_succ_eq_append_getElem h, List.map_append, List.map_append]
  congr 1
  simp [List.getD_eq_getElem?_getD, h]
/-- the builder, behind so many pieces. -/
def bldO (s : ByteArray) : Nat → List (Nat × Blk)
  | 0 => [(1, .cells [.d .nilp, .d .nilsl] 159)]
  | _ + 1 => [(1, .cells [.ptr 1 0, .orow 3] 159), (3, .row 5 (octs s))]
abbrev wholeO (u : Upload) (ws : List Piece) (i : Nat) : List (Nat × Blk) := (0, .cells [.d (.int .u64 u.ID), .d (.str u.Key), .d (dParts u.L)] 153) :: (2, .row 36 (tagRow (ws.take i))) :: bldO (catW u (ws.take i)) i
abbrev wholeR (ws : List Piece) (i : Nat) : List (Nat × Path × A) := [(49, [], dl (.int .i64 i)), (48, [], dl (.int .i64 ws.length)), (47, [], dl (dPieces ws)), (1, [], dl (dPieces ws)), (7, [], .b (.l (.ptr 0 0))), (10, [], .b (.l (.orow 2))), (9, [], .b (.l (.ptr 1 0)))]

theorem upload_Whole (u : Upload) (ws : List Piece) (hw : ws.length < 100) (hne : (wholeU u ws).2.2 = 0 → (catW u ws).size ≠ 0) : Pure Tryz.prog 46 [bUpload u, bD (dPieces ws)] (rWhole (wholeU u ws)) := by
  refine pure_intro hT Tryz.func46 rfl (by kernel_rfl) rfl rfl fun X hX => ?_
  refine V_go (n := 1000) hT rfl ?_
  refine VL_Y (n := 1000) hT (yl_pure (parts_fine u) rfl rfl rfl) rfl rfl rfl ?_
  refine V_cond rfl (fun hc => ?_) fun hc => ?_
  · refine V_go (n := 1000) hT rfl ?_
    refine endsP rfl ?_
    have : wholeU u ws = (ByteArray.empty, ByteArray.empty, 1) := by
      unfold wholeU; rw [if_pos (by simpa using hc)]
    rw [this]; exact WkA.refl _
  have hc' : (!fineU u || ws.length == 0) = false := by simpa using hc
  have hf : fineU u = true := by simp at hc'; exact hc'.1
  have hpos : 0 < ws.length := by simp at hc'; have := hc'.2; exact List.length_pos_iff.2 this
  have hwl : wholeU u ws = if (List.range (ws.length - 1)).any (badW ws) then (ByteArray.empty, ByteArray.empty, 9)
      else if ws.any (lacksU u) then (ByteArray.empty, ByteArray.empty, 4)
      else if (List.range ws.length).any (shortW u ws) then (ByteArray.empty, ByteArray.empty, 3)
      else if (2000 : Int) < (catW u ws).size then (ByteArray.empty, ByteArray.empty, 6)
      else (catW u ws, manyT (ws.map Piece.Tag), 0) := by unfold wholeU; rw [if_neg (by rw [hc']; simp)]
  rw [hwl]
  clear hc hc'
  refine V_go (n := 1000) hT rfl ?_
  refine V_loop hX (fun (i : Nat) => ⟨[(8, [], dl (.int .i64 i)), (1, [], dl (dPieces ws)), (7, [], .b (.l (.ptr 0 0))), (4, [], dl (.str ByteArray.empty)), (5, [], dl (.str ByteArray.empty)), (6, [], dl (.int .i64 0))], [(0, .cells [.d (.int .u64 u.ID), .d (.str u.Key), .d (dParts u.L)] 153)], 1, [], [], 86⟩)
      (fun i => 1 ≤ i ∧ i ≤ ws.length ∧ ∀ j, j + 1 < i → badW ws j = false) (fun i => ws.length - i) 1 ?_ ⟨Nat.le_refl _, hpos, fun j h => by omega⟩ fun i hi => ?_
  · exact ghost_of [(0, 1)] rfl rfl rfl rfl rfl ⟨⟨rfl, rfl⟩, ⟨rfl, rfl⟩, ⟨rfl, rfl⟩, ⟨rfl, rfl⟩, ⟨rfl, rfl⟩, ⟨rfl, rfl⟩, trivial⟩ ⟨rfl, trivial⟩
  obtain ⟨hi1, hi2, hi3⟩ := hi
  refine V_go (n := 1000) hT rfl ?_
  refine V_cond rfl (fun hlt => ?_) fun hge => ?_
  · have hlt' : i < ws.length := by simpa using hlt
    have hw' := i64_succ (n := i) (by omega)
    refine V_go (n := 1000) hT rfl ?_
    refine VD_start ?_
    refine VD_go hT rfl rfl ?_
    refine VD_Y hT rfl rfl rfl rfl (yl_indexAddr (n := i - 1) (cs := ePiece (ws.getD (i - 1) default)) hT rfl rfl rfl rfl rfl rfl (by show IntKind.i64.wrap _ = _; rw [IntKind.wrap_i64]; omega) (get_map (by omega))) rfl rfl rfl ?_
    refine VD_Y hT rfl rfl rfl rfl (yl_indexAddr (n := i) (cs := ePiece (ws.getD i default)) hT rfl rfl rfl rfl rfl rfl rfl (get_map hlt')) rfl rfl rfl ?_
    refine VD_end (n := 1000) hT rfl (by kernel_rfl) (by kernel_rfl) rfl rfl rfl ?_
    have hbw : badW ws (i - 1) = decide ((ws.getD i default).N ≤ (ws.getD (i - 1) default).N) := by unfold badW; rw [show i - 1 + 1 = i by omega]
    refine V_cond rfl (fun hb => ?_) fun hb => ?_
    · refine V_go (n := 1000) hT rfl ?_
      rw [if_pos (List.any_eq_true.2 ⟨i - 1, List.mem_range.2 (by omega), by rw [hbw]; exact hb⟩)]
      exact endsP rfl (WkA.refl _)
    · refine V_go (n := 1000) hT rfl ?_
      refine ⟨i + 1, ⟨by omega, hlt', fun j hj => ?_⟩, by omega, ?_⟩
      · rcases Nat.lt_or_ge (j + 1) i with h | h
        · exact hi3 j h
        · rw [show j = i - 1 by omega, hbw]; exact hb
      · exact ghost_of [(0, 0)] rfl rfl rfl rfl rfl ⟨⟨rfl, congrArg (fun z => some (([] : Path), dl (.int .i64 z))) hw'⟩, ⟨rfl, rfl⟩, ⟨rfl, rfl⟩, ⟨rfl, rfl⟩, ⟨rfl, rfl⟩, ⟨rfl, rfl⟩, trivial⟩ ⟨rfl, trivial⟩
  have hi6 : i = ws.length := by simp at hge; omega
  have hnb : ((List.range (ws.length - 1)).any (badW ws)) = false := by
    rw [List.any_eq_false]
    intro j hj
    have := List.mem_range.1 hj
    rw [hi3 j (by omega)]; simp
  rw [if_neg (by rw [hnb]; simp)]
  refine V_go (n := 1000) hT rfl ?_
  refine VL_Y (n := 1000) hT (yl_makeFuncM (us := eUpload u) rfl rfl rfl rfl) rfl rfl rfl ?_
  refine VL_Y (n := 1000) hT (yl_pure (hasM_Piece (f := 96) (recv := eUpload u) (q := lacksU u) (fun x => upload_lacks u x fun q hq => by have := fineU_small hf q hq; omega) ws) rfl rfl rfl) rfl rfl rfl ?_
  refine V_cond rfl (fun hb => ?_) fun hb => ?_
  · refine V_go (n := 1000) hT rfl ?_
    rw [if_pos hb]
    exact endsP rfl (WkA.refl _)
  rw [if_neg (by rw [hb]; simp)]
  have hlk : ws.any (lacksU u) = false := hb
  have hnb' := hnb
  clear hnb hi3 hge
  refine V_go (n := 1000) hT rfl ?_
  refine V_ghost hX (ghost_nilrow 10 36 rfl rfl) ?_
  refine V_loop hX (fun (i : Nat) => ⟨wholeR ws i, wholeO u ws i, 4, [], [], 86⟩)
      (fun i => i ≤ ws.length ∧ ∀ j, j < i → shortW u ws j = false) (fun i => ws.length - i) 0 ?_ ⟨Nat.zero_le _, fun j h => by omega⟩ fun i hi => ?_
  · exact ghost_of [(0, 0), (1, 1), (2, 2)] rfl rfl rfl rfl rfl ⟨⟨rfl, rfl⟩, ⟨rfl, congrArg (fun (n : Nat) => some (([] : Path), dl (.int .i64 n))) (List.length_map ..)⟩, ⟨rfl, rfl⟩, ⟨rfl, rfl⟩, ⟨rfl, rfl⟩, ⟨rfl, rfl⟩, ⟨rfl, rfl⟩, trivial⟩ ⟨rfl, rfl, rfl, trivial⟩
  obtain ⟨hi2, hi3⟩ := hi
  cases i with
  | zero =>
    dsimp only [wholeR, wholeO]
    refine V_go (n := 1000) hT rfl ?_
    refine V_cond rfl (fun hlt => ?_) fun hge => ?_
    · have hlt' : 0 < ws.length := by simp at hlt; omega
      have hw' := i64_succ (n := 0) (by omega)
      refine V_go (n := 1000) hT rfl ?_
      refine VL_Y (n := 1000) hT (yl_indexAddr (n := 0) (cs := ePiece (ws.getD (0) default)) hT rfl rfl rfl rfl rfl rfl rfl (get_map hlt')) rfl rfl rfl ?_
      refine VL_Y (n := 1000) hT (yl_pure (upload_data u (ws.getD (0) default).N) rfl rfl rfl) rfl rfl rfl ?_
      have hsh : shortW u ws (0) = (decide (((0 : Nat) : Int) < IntKind.i64.wrap (((ws.map ePiece).length : Int) - 1)) && decide (((dataW u (ws.getD (0) default)).size : Int) < 5)) := by
        unfold shortW; rw [List.length_map, IntKind.wrap_i64, show ((ws.length : Int) - 1 + 9223372036854775808) % 18446744073709551616 - 9223372036854775808 = (ws.length : Int) - 1 by omega]
      refine V_cond rfl (fun hs => ?_) fun hs => ?_
      · refine V_go (n := 1000) hT rfl ?_
        rw [if_pos (List.any_eq_true.2 ⟨0, List.mem_range.2 hlt', by rw [hsh]; exact hs⟩)]
        exact endsP rfl (WkA.refl _)
      have hs' : shortW u ws (0) = false := by rw [hsh]; exact hs
      have hsz := dataW_small hf (ws.getD (0) default)
      have hsz2 := catW_small hf (ws.take (0))
      have hlen : (ws.take (0)).length = 0 := by simp <;> omega
      have hlen2 : (tagRow (ws.take (0))).length = 0 := by simp [tagRow] <;> omega
      have hcat := catW_take u hlt'
      have htag := tagRow_take hlt'
      refine V_go (n := 1000) hT rfl ?_
      refine VL_T (n := 1000) hT 6 rfl (tl_call [(0, 1)] [(1, 5)] (builder_WriteN (dataW u (ws.getD 0 default)) (by omega)) rfl rfl rfl rfl ⟨rfl, trivial⟩ rfl (full_of rfl) rfl rfl rfl rfl) rfl rfl rfl ?_
      refine VL_T (n := 1000) hT 7 rfl (tl_buildSlice (n := 6) hT rfl rfl rfl rfl rfl rfl rfl rfl) rfl rfl rfl ?_
      refine VL_T (n := 1000) hT 8 rfl (tl_append (n := 7) (ds := tagRow (ws.take (0))) (fs := [[D.int .u32 (ws.getD (0) default).Tag]]) (del := [2]) hT rfl rfl rfl rfl rfl rfl rfl rfl rfl rfl rfl (by rw [hlen2]; show (0 + 1) * 4 ≤ 140737488355328; omega) (by rw [hlen2]; show 0 + 1 ≤ maxLen; unfold maxLen; omega)) rfl rfl rfl ?_
      refine ⟨0 + 1, ⟨hlt', fun j hj => ?_⟩, by omega, ?_⟩
      · rcases Nat.lt_succ_iff_lt_or_eq.1 hj with h | rfl
        · exact hi3 j h
        · exact hs'
      dsimp only [wholeR, wholeO]
      rw [← htag]
      rw [show catW u (ws.take (0 + 1)) = dataW u (ws.getD 0 default) by rw [hcat]; simp [catW]]
      exact ghost_of [(0, 0), (1, 1), (2, 7), (3, 5)] rfl rfl rfl rfl rfl ⟨⟨rfl, congrArg (fun z => some (([] : Path), dl (.int .i64 z))) hw'⟩, ⟨rfl, rfl⟩, ⟨rfl, rfl⟩, ⟨rfl, rfl⟩, ⟨rfl, rfl⟩, ⟨rfl, rfl⟩, ⟨rfl, rfl⟩, trivial⟩ ⟨rfl, rfl, rfl, rfl, trivial⟩
    · exfalso; rw [decide_eq_false_iff_not] at hge; omega
  | succ k =>
    dsimp only [wholeR, wholeO]
    refine V_go (n := 1000) hT rfl ?_
    refine V_cond rfl (fun hlt => ?_) fun hge => ?_
    · have hlt' : k + 1 < ws.length := by simp at hlt; omega
      have hw' := i64_succ (n := k + 1) (by omega)
      refine V_go (n := 1000) hT rfl ?_
      refine VL_Y (n := 1000) hT (yl_indexAddr (n := k + 1) (cs := ePiece (ws.getD (k + 1) default)) hT rfl rfl rfl rfl rfl rfl rfl (get_map hlt')) rfl rfl rfl ?_
      refine VL_Y (n := 1000) hT (yl_pure (upload_data u (ws.getD (k + 1) default).N) rfl rfl rfl) rfl rfl rfl ?_
      have hsh : shortW u ws (k + 1) = (decide (((k + 1 : Nat) : Int) < IntKind.i64.wrap (((ws.map ePiece).length : Int) - 1)) && decide (((dataW u (ws.getD (k + 1) default)).size : Int) < 5)) := by
        unfold shortW; rw [List.length_map, IntKind.wrap_i64, show ((ws.length : Int) - 1 + 9223372036854775808) % 18446744073709551616 - 9223372036854775808 = (ws.length : Int) - 1 by omega]
      refine V_cond rfl (fun hs => ?_) fun hs => ?_
      · refine V_go (n := 1000) hT rfl ?_
        rw [if_pos (List.any_eq_true.2 ⟨k + 1, List.mem_range.2 hlt', by rw [hsh]; exact hs⟩)]
        exact endsP rfl (WkA.refl _)
      have hs' : shortW u ws (k + 1) = false := by rw [hsh]; exact hs
      have hsz := dataW_small hf (ws.getD (k + 1) default)
      have hsz2 := catW_small hf (ws.take (k + 1))
      have hlen : (ws.take (k + 1)).length = k + 1 := by simp <;> omega
      have hlen2 : (tagRow (ws.take (k + 1))).length = k + 1 := by simp [tagRow] <;> omega
      have hcat := catW_take u hlt'
      have htag := tagRow_take hlt'
      refine V_go (n := 1000) hT rfl ?_
      refine VL_T (n := 1000) hT 6 rfl (tl_call [(0, 1), (1, 3)] [(2, 5)] (builder_WriteR (catW u (ws.take (k + 1))) (dataW u (ws.getD (k + 1) default)) (by omega)) rfl rfl rfl rfl ⟨rfl, rfl, trivial⟩ rfl (full_of rfl) rfl rfl rfl rfl) rfl rfl rfl ?_
      refine VL_T (n := 1000) hT 7 rfl (tl_buildSlice (n := 6) hT rfl rfl rfl rfl rfl rfl rfl rfl) rfl rfl rfl ?_
      refine VL_T (n := 1000) hT 8 rfl (tl_append (n := 7) (ds := tagRow (ws.take (k + 1))) (fs := [[D.int .u32 (ws.getD (k + 1) default).Tag]]) (del := [2]) hT rfl rfl rfl rfl rfl rfl rfl rfl rfl rfl rfl (by rw [hlen2]; show (k + 1 + 1) * 4 ≤ 140737488355328; omega) (by rw [hlen2]; show k + 1 + 1 ≤ maxLen; unfold maxLen; omega)) rfl rfl rfl ?_
      refine ⟨k + 1 + 1, ⟨hlt', fun j hj => ?_⟩, by omega, ?_⟩
      · rcases Nat.lt_succ_iff_lt_or_eq.1 hj with h | rfl
        · exact hi3 j h
        · exact hs'
      dsimp only [wholeR, wholeO]
      rw [← htag]
      rw [hcat]
      exact ghost_of [(0, 0), (1, 1), (2, 7), (3, 5)] rfl rfl rfl rfl rfl ⟨⟨rfl, congrArg (fun z => some (([] : Path), dl (.int .i64 z))) hw'⟩, ⟨rfl, rfl⟩, ⟨rfl, rfl⟩, ⟨rfl, rfl⟩, ⟨rfl, rfl⟩, ⟨rfl, rfl⟩, ⟨rfl, rfl⟩, trivial⟩ ⟨rfl, rfl, rfl, rfl, trivial⟩
    · have hk : k + 1 = ws.length := by rw [decide_eq_false_iff_not] at hge; omega
      have htk : ws.take (k + 1) = ws := by rw [hk, List.take_length]
      have hns : ((List.range ws.length).any (shortW u ws)) = false := by
        rw [List.any_eq_false]
        intro j hj
        have := List.mem_range.1 hj
        rw [hi3 j (by omega)]; simp
      rw [if_neg (by rw [hns]; simp)]
      have hsz2 := catW_small hf ws
      rw [htk]
      refine V_go (n := 1000) hT rfl ?_
      refine VL_T (n := 1000) hT 4 rfl (tl_call [(0, 1), (1, 3)] [] (builder_Len (catW u ws)) rfl rfl rfl rfl ⟨rfl, rfl, trivial⟩ rfl (full_of rfl) rfl rfl rfl rfl) rfl rfl rfl ?_
      refine V_cond rfl (fun hb => ?_) fun hb => ?_
      · refine V_go (n := 1000) hT rfl ?_
        rw [if_pos (by simpa using hb)]
        exact endsP rfl (WkA.refl _)
      have hne' : (catW u ws).size ≠ 0 := hne (by rw [hwl, if_neg (by rw [hnb']; simp), if_neg (by rw [hlk]; simp), if_neg (by rw [hns]; simp), if_neg (by simpa using hb)])
      rw [if_neg (by simpa using hb)]
      refine V_ghost hX (ghost_freeze 2 rfl) ?_
      refine V_go (n := 1000) hT rfl ?_
      refine VL_Y (n := 1000) hT (yl_pure (tag_Many (ws.map Piece.Tag) (fun h => by have := congrArg List.length h; simp at this; rw [this] at hpos; simp at hpos) (by simpa using hw)) rfl rfl rfl) rfl rfl rfl ?_
      refine VL_T (n := 1000) hT 4 rfl (tl_call [(0, 1), (1, 3)] [] (builder_String (catW u ws) hne' (by omega)) rfl rfl rfl rfl ⟨rfl, rfl, trivial⟩ rfl (full_of rfl) rfl rfl rfl rfl) rfl rfl rfl ?_
      exact endsP rfl (WkA.refl _)
end Go.Cel

set_option linter.unusedVariables false
set_option maxRecDepth 100000
set_option maxHeartbeats 4000000
namespace Go.Cel
open Go.Proofs Go.IntWalk

theorem parts_Lay1 (p : Part) (n : Int) : Pure Tryz.prog 90 [bPart p, bD (.int .i64 n)] (dl (.int .i64 (IntKind.i64.wrap (p.N - n)))) := by
  refine pure_intro hT Tryz.func90 rfl (by kernel_rfl) rfl rfl fun X hX => ?_
  refine V_go (n := 1000) hT rfl ?_
  exact endsP rfl (WkA.refl _)

def cmpN (l : List Part) (n : Int) (h : Nat) : Int := IntKind.i64.wrap ((l.getD h default).N - n)
def bsGo (l : List Part) (n : Int) (i j : Nat) : Nat :=
  if i < j then (if cmpN l n ((i + j) / 2) < 0 then bsGo l n ((i + j) / 2 + 1) j else bsGo l n i ((i + j) / 2)) else i
termination_by j - i
decreasing_by all_goals omega
theorem bsGo_le (l : List Part) (n : Int) (i j : Nat) (h : i ≤ j) : bsGo l n i j ≤ j := by
  fun_induction bsGo l n i j with
  | case1 i j h1 h2 ih => exact ih (by omega)
  | case2 i j h1 h2 ih => have := ih (by omega); omega
  | case3 i j h1 => exact h
def bsI (l : List Part) (n : Int) : Nat := bsGo l n 0 l.length
def bsF (l : List Part) (n : Int) : Bool := decide ((bsI l n : Int) < l.length) && (cmpN l n (bsI l n) == 0)

theorem fdiv_two (a : Int) : a.fdiv (2 ^ min 1 IntKind.u64.bits) = a / 2 := by
  have : (2 : Int) ^ min 1 IntKind.u64.bits = 2 := by decide
  rw [this, Int.fdiv_eq_ediv_of_nonneg _ (by decide)]
theorem mid_half {i j : Nat} (h : i + j < 18446744073709551616) : IntKind.i64.wrap ((IntKind.u64.wrap (IntKind.i64.wrap ((i : Int) + (j : Int)))).fdiv (2 ^ min 1 IntKind.u64.bits)) = (((i + j) / 2 : Nat) : Int) := by
  rw [fdiv_two]
  generalize hz : (i : Int) + (j : Int) = z
  simp only [IntKind.wrap_i64, IntKind.wrap_u64]
  omega

theorem parts_search (l : List Part) (n : Int) : Pure Tryz.prog 89 [bD (dParts l), bD (.int .i64 n), bD (.fn 90 [] [])] (.tup [.l (.d (.int .i64 (bsI l n))), .l (.d (.bool (bsF l n)))]) := by
  refine pure_intro hT Tryz.func89 rfl (by kernel_rfl) rfl rfl fun X hX => ?_
  refine V_lenb (j := 0) rfl fun hlen _ => ?_
  simp only [List.length_map, maxLen] at hlen
  refine V_go (n := 1000) hT rfl ?_
  refine V_loop hX (fun (x : Nat × Nat) => ⟨[(9, [], dl (.int .i64 x.1)), (10, [], dl (.int .i64 x.2)), (8, [], dl (.int .i64 l.length)), (0, [], dl (dParts l)), (1, [], dl (.int .i64 n)), (2, [], dl (.fn 90 [] []))], [], 0, [], [], 49⟩)
      (fun x => x.1 ≤ x.2 ∧ x.2 ≤ l.length ∧ bsGo l n x.1 x.2 = bsI l n) (fun x => x.2 - x.1) (0, l.length) ?_ ⟨Nat.zero_le _, Nat.le_refl _, rfl⟩ fun x hx => ?_
  · exact ghost_of [] rfl rfl rfl rfl rfl ⟨⟨rfl, rfl⟩, ⟨rfl, congrArg (fun (n : Nat) => some (([] : Path), dl (.int .i64 n))) (List.length_map ..)⟩, ⟨rfl, congrArg (fun (n : Nat) => some (([] : Path), dl (.int .i64 n))) (List.length_map ..)⟩, ⟨rfl, rfl⟩, ⟨rfl, rfl⟩, ⟨rfl, rfl⟩, trivial⟩ trivial
  obtain ⟨i, j⟩ := x
  obtain ⟨hij, hj, hb⟩ := hx
  simp only at hij hj hb
  dsimp only
  refine V_go (n := 1000) hT rfl ?_
  refine V_cond rfl (fun hlt => ?_) fun hge => ?_
  · have hlt' : i < j := by simpa using hlt
    rw [bsGo, if_pos hlt'] at hb
    refine V_go (n := 1000) hT rfl ?_
    have hmid := mid_half (i := i) (j := j) (by omega)
    refine VL_Y (n := 1000) hT (yl_indexAddr (n := (i + j) / 2) (cs := ePart (l.getD ((i + j) / 2) default)) hT rfl rfl rfl rfl rfl rfl hmid (get_map (by omega))) rfl rfl rfl ?_
    refine VL_Y (n := 1000) hT (yl_pure (parts_Lay1 (l.getD ((i + j) / 2) default) n) rfl rfl rfl) rfl rfl rfl ?_
    have hw1 : IntKind.i64.wrap ((((i + j) / 2 : Nat) : Int) + 1) = (((i + j) / 2 + 1 : Nat) : Int) := i64_succ (by omega)
    refine V_cond rfl (fun h1 => ?_) fun h1 => ?_
    · rw [if_pos (by simpa [cmpN] using h1)] at hb
      refine V_go (n := 1000) hT rfl ?_
      refine ⟨((i + j) / 2 + 1, j), ⟨by simp only; omega, hj, hb⟩, by simp only; omega, ?_⟩
      exact ghost_of [] rfl rfl rfl rfl rfl ⟨⟨rfl, congrArg (fun z => some (([] : Path), dl (.int .i64 z))) ((congrArg (fun z => IntKind.i64.wrap (z + 1)) hmid).trans hw1)⟩, ⟨rfl, rfl⟩, ⟨rfl, rfl⟩, ⟨rfl, rfl⟩, ⟨rfl, rfl⟩, ⟨rfl, rfl⟩, trivial⟩ trivial
    · rw [if_neg (by have := of_decide_eq_false h1; exact this)] at hb
      refine V_go (n := 1000) hT rfl ?_
      refine ⟨(i, (i + j) / 2), ⟨by simp only; omega, by simp only; omega, hb⟩, by simp only; omega, ?_⟩
      exact ghost_of [] rfl rfl rfl rfl rfl ⟨⟨rfl, rfl⟩, ⟨rfl, congrArg (fun z => some (([] : Path), dl (.int .i64 z))) hmid⟩, ⟨rfl, rfl⟩, ⟨rfl, rfl⟩, ⟨rfl, rfl⟩, ⟨rfl, rfl⟩, trivial⟩ trivial
  · have hij' : i = j := by rw [decide_eq_false_iff_not] at hge; omega
    have hbi : bsI l n = i := by rw [← hb, bsGo, if_neg (by omega)]
    refine V_go (n := 1000) hT rfl ?_
    refine VL_Yp (n := 1000) hT rfl (Yl.given rfl fun h => yl_indexAddr (n := i) (cs := ePart (l.getD i default)) hT rfl rfl rfl rfl rfl rfl rfl ?_) rfl rfl ?_
    · have h1 : decide ((i : Int) < (l.length : Int)) = true := h.1
      have := of_decide_eq_true h1
      exact get_map (by omega)
    refine VL_Yp (n := 1000) hT rfl (yl_pure (parts_Lay1 (l.getD i default) n) rfl rfl rfl) rfl rfl ?_
    subst hbi
    exact endsP rfl (WkA.refl _)
end Go.Cel

set_option linter.unusedVariables false
set_option maxRecDepth 100000
set_option maxHeartbeats 4000000
namespace Go.Cel
open Go.Proofs Go.IntWalk

/-- a part, laid among others. -/
def layP (l : List Part) (p : Part) : List Part := if bsF l p.N then l.set (bsI l p.N) p else l.take (bsI l p.N) ++ p :: l.drop (bsI l p.N)
def layU (l : List Upload) (id : Int) (p : Part) : List Upload × Int × Int :=
  if (placeU l id).2 == 1 || !mayP p then ([], 0, 1) else if (placeU l id).2 != 0 then ([], 0, (placeU l id).2)
  else
    let i := (placeU l id).1.toNat
    let u := l.getD i default
    if !bsF u.L p.N && (u.L.length : Int) == 30 then ([], 0, 6) else (l.set i { u with L := layP u.L p }, ofT p.Data, 0)
abbrev rUTE (x : List Upload × Int × Int) : A := .tup [bD (dUploads x.1), bD (.int .u32 x.2.1), bD (.int .i64 x.2.2)]
theorem rUTE_nil (e : Int) : WkA (.tup [bD .nilsl, bD (.int .u32 0), bD (.int .i64 e)]) (rUTE ([], 0, e)) := .tup ⟨.l (.d (.nil 101)), .refl _, .refl _, trivial⟩

theorem rUTE_eq {l' : List Upload} {es : List (List D)} {t e : Int} (h : l'.map eUpload = es) : WkA (.tup [bD (.seq 101 es), bD (.int .u32 t), bD (.int .i64 e)]) (rUTE (l', t, e)) := by
  subst h; exact WkA.refl _
theorem uploadsGo_fine : ∀ {l : List Upload} {prev : Option Int}, uploadsGo prev l = true → ∀ u, u ∈ l → fineU u = true
  | [], _, _, u, hu => by cases hu
  | x :: r, prev, h, u, hu => by
    simp only [uploadsGo] at h
    split at h
    · cases h
    · rename_i hb
      rcases List.mem_cons.1 hu with rfl | hu
      · unfold uploadBad at hb
        simp at hb
        exact hb.1
      · exact uploadsGo_fine h u hu
theorem placeU_fine {l : List Upload} {id : Int} (h : ((placeU l id).2 != 0) = false) : ∀ u, u ∈ l → fineU u = true := by
  unfold placeU at h
  cases h1 : errOf (uploadsOK l) != 0 with
  | true => rw [h1] at h; simp at h
  | false =>
    have h2 : uploadsOK l = true := by
      unfold errOf at h1
      cases hc : uploadsOK l with
      | true => rfl
      | false => rw [hc] at h1; simp at h1
    unfold uploadsOK at h2
    rw [Bool.and_eq_true] at h2
    exact uploadsGo_fine h2.2
theorem fineU_len {u : Upload} (h : fineU u = true) : u.L.length ≤ 30 := by
  unfold fineU at h; simp at h; omega

theorem parts_Lay (l : List Upload) (id : Int) (p : Part) : Pure Tryz.prog 42 [bD (dUploads l), bD (.int .u64 id), bPart p] (rUTE (layU l id p)) := by
  refine pure_intro hT Tryz.func42 rfl (by kernel_rfl) rfl rfl fun X hX => ?_
  refine V_go (n := 1000) hT rfl ?_
  refine VL_Y (n := 1000) hT (yl_pure (parts_place l id) rfl rfl rfl) rfl rfl rfl ?_
  refine VL_Yp (n := 1000) hT rfl (yl_pure (parts_may p) rfl rfl rfl) rfl rfl ?_
  refine V_cond rfl (fun h1 => ?_) fun h1 => ?_
  · have : layU l id p = ([], 0, 1) := by unfold layU; rw [if_pos h1]
    rw [this]
    refine V_go (n := 1000) hT rfl ?_
    exact endsP rfl (rUTE_nil _)
  have hl1 : layU l id p = if (placeU l id).2 != 0 then ([], 0, (placeU l id).2)
      else
        if !bsF (l.getD (placeU l id).1.toNat default).L p.N && ((l.getD (placeU l id).1.toNat default).L.length : Int) == 30 then ([], 0, 6) else (l.set (placeU l id).1.toNat { l.getD (placeU l id).1.toNat default with L := layP (l.getD (placeU l id).1.toNat default).L p }, ofT p.Data, 0) := by
    unfold layU; rw [if_neg (by rw [show ((placeU l id).2 == 1 || !mayP p) = false from h1]; simp)]
  rw [hl1]
  have hmay : mayP p = true := by
    have : ((placeU l id).2 == 1 || !mayP p) = false := h1
    simp at this; exact this.2
  have hsz : p.Data.size ≤ 2000 := by unfold mayP at hmay; simp at hmay; omega
  clear hl1 h1
  refine V_go (n := 1000) hT rfl ?_
  refine V_cond rfl (fun h2 => ?_) fun h2 => ?_
  · rw [if_pos h2]
    refine V_go (n := 1000) hT rfl ?_
    exact endsP rfl (rUTE_nil _)
  rw [if_neg (by rw [h2]; simp)]
  obtain ⟨hz, hlt, hlen⟩ := placeU_ok h2
  have hfine := placeU_fine h2
  generalize (placeU l id).1.toNat = i at hz hlt
  rw [hz]
  have huf := fineU_len (hfine _ (mem_getD hlt))
  generalize hu : l.getD i default = u at huf
  have hget : (l.map eUpload)[i]? = some (eUpload u) := by rw [← hu]; exact get_map hlt
  have hmap : (l.map eUpload).length = l.length := List.length_map ..
  refine V_go (n := 1000) hT rfl ?_
  refine VD_start ?_
  refine VD_go hT rfl rfl ?_
  refine VD_Y hT rfl rfl rfl rfl (yl_indexAddr (n := i) (cs := eUpload u) hT rfl rfl rfl rfl rfl rfl rfl hget) rfl rfl rfl ?_
  refine VD_Y hT rfl rfl rfl rfl (yl_pure (parts_search u.L p.N) rfl rfl rfl) rfl rfl rfl ?_
  refine VD_end (n := 1000) hT rfl (by kernel_rfl) (by kernel_rfl) rfl rfl rfl ?_
  refine VL_T (n := 1000) hT 2 rfl (tl_call [] [(0, 1)] (clone_Upload l) rfl rfl rfl rfl trivial rfl (full_of rfl) rfl rfl rfl rfl) rfl rfl rfl ?_
  refine VL_ghost hX (ghost_rowp hT 1 i (es := l.map eUpload) (cs := eUpload u) rfl rfl hget rfl) ?_
  refine VL_Y (n := 1000) hT (yl_indexAddrRowp (n := i) hT rfl rfl rfl rfl rfl rfl rfl rfl (by rw [hmap]; exact hlt)) rfl rfl rfl ?_
  refine VL_Y (n := 1000) hT (yl_loadRowp (off := 2) (y := .d (dParts u.L)) hT rfl rfl rfl rfl rfl rfl rfl rfl rfl) rfl rfl rfl ?_
  refine VL_T (n := 1000) hT 3 rfl (tl_call [] [(0, 2)] (clone_Part u.L) rfl rfl rfl rfl trivial rfl (full_of rfl) rfl rfl rfl rfl) rfl rfl rfl ?_
  refine VL_Y (n := 1000) hT (yl_indexAddrRowp (n := i) hT rfl rfl rfl rfl rfl rfl rfl rfl (by rw [hmap]; exact hlt)) rfl rfl rfl ?_
  refine VL_T (n := 1000) hT 3 rfl (tl_storeRowp (off := 2) (ls' := [.d (.int .u64 u.ID), .d (.str u.Key), .orow 2]) hT rfl rfl rfl rfl rfl rfl rfl rfl rfl rfl rfl) rfl rfl rfl ?_
  have hbl : bsI u.L p.N ≤ u.L.length := bsGo_le _ _ _ _ (Nat.zero_le _)
  have hpm : (u.L.map ePart).length = u.L.length := List.length_map ..
  refine V_cond rfl (fun h3 => ?_) fun h3 => ?_
  · rw [if_neg (by rw [show bsF u.L p.N = true from h3]; simp)]
    have hlt3 : bsI u.L p.N < u.L.length := by
      have : bsF u.L p.N = true := h3
      unfold bsF at this; simp at this; omega
    have hlp : layP u.L p = u.L.set (bsI u.L p.N) p := by unfold layP; rw [if_pos h3]
    rw [hlp]
    generalize bsI u.L p.N = k at hlt3
    refine V_go (n := 1000) hT rfl ?_
    refine VD_start ?_
    refine VD_go hT rfl rfl ?_
    refine VD_Y hT rfl rfl rfl rfl (yl_indexAddrRowp (n := i) hT rfl rfl rfl rfl rfl rfl rfl rfl (by rw [hmap]; exact hlt)) rfl rfl rfl ?_
    refine VD_Y hT rfl rfl rfl rfl (yl_loadRowp (off := 2) (y := .orow 2) hT rfl rfl rfl rfl rfl rfl rfl rfl rfl) rfl rfl rfl ?_
    refine VD_Y hT rfl rfl rfl rfl (yl_indexAddrRow (n := k) hT rfl rfl rfl rfl rfl rfl rfl rfl (by rw [hpm]; exact hlt3)) rfl rfl rfl ?_
    refine VD_T (os := [76, 75]) (gs := []) (ids := [2]) (σ := ⟨[76, 75], [], [2], [2], []⟩) hT rfl rfl (tl_storeRow hT rfl rfl rfl rfl rfl rfl rfl rfl rfl rfl rfl (get_map hlt3)) rfl rfl 3 rfl rfl ?_
    refine VD_end (n := 1000) hT rfl (by kernel_rfl) (by kernel_rfl) rfl rfl rfl ?_
    refine VL_ghost hX (ghost_freeze 2 rfl) ?_
    refine VL_ghost hX (ghost_unrowp 1 i (ds := [.int .u64 u.ID, .str u.Key, .seq 40 ((u.L.map ePart).set k (ePart p))]) rfl rfl) ?_
    refine VL_ghost hX (ghost_freeze 1 rfl) ?_
    refine VL_Y (n := 1000) hT (yl_pure (tag_Of p.Data (by omega)) rfl rfl rfl) rfl rfl rfl ?_
    exact endsP rfl (rUTE_eq (by rw [List.map_set, eUpload, dParts, List.map_set]))
  · rw [show bsF u.L p.N = false from h3]
    have hlp : layP u.L p = u.L.take (bsI u.L p.N) ++ p :: u.L.drop (bsI u.L p.N) := by unfold layP; rw [if_neg (by rw [show bsF u.L p.N = false from h3]; simp)]
    rw [hlp]
    generalize bsI u.L p.N = k at hbl
    refine V_go (n := 1000) hT rfl ?_
    refine VL_Y (n := 1000) hT (yl_indexAddrRowp (n := i) hT rfl rfl rfl rfl rfl rfl rfl rfl (by rw [hmap]; exact hlt)) rfl rfl rfl ?_
    refine VL_Y (n := 1000) hT (yl_loadRowp (off := 2) (y := .orow 2) hT rfl rfl rfl rfl rfl rfl rfl rfl rfl) rfl rfl rfl ?_
    refine V_cond rfl (fun h4 => ?_) fun h4 => ?_
    · rw [hpm] at h4
      rw [if_pos (by rw [h4]; rfl)]
      refine V_go (n := 1000) hT rfl ?_
      exact endsP rfl (rUTE_nil _)
    rw [hpm] at h4
    rw [if_neg (by rw [h4]; simp)]
    refine V_go (n := 1000) hT rfl ?_
    refine VD_start ?_
    refine VD_go hT rfl rfl ?_
    refine VD_Y hT rfl rfl rfl rfl (yl_indexAddrRowp (n := i) hT rfl rfl rfl rfl rfl rfl rfl rfl (by rw [hmap]; exact hlt)) rfl rfl rfl ?_
    refine VD_Y hT rfl rfl rfl rfl (yl_loadRowp (off := 2) (y := .orow 2) hT rfl rfl rfl rfl rfl rfl rfl rfl rfl) rfl rfl rfl ?_
    refine VD_T (os := [62]) (gs := []) (ids := []) (σ := ⟨[62], [63], [], [3], [3]⟩) hT rfl rfl (tl_buildSlice (n := 3) hT rfl rfl rfl rfl rfl rfl rfl rfl) rfl rfl 4 rfl rfl ?_
    refine VD_T (os := [60, 61, 63]) (gs := []) (ids := [2, 3]) (σ := ⟨[60, 61, 63], [64], [2, 3], [2, 3, 4], [4]⟩) hT rfl rfl (tl_call [(0, 2), (1, 3)] [(2, 4)] (Insert_Part u.L p k hbl (by omega)) rfl rfl rfl rfl ⟨rfl, rfl, trivial⟩ rfl (full_of rfl) rfl rfl rfl rfl) rfl rfl 5 rfl rfl ?_
    refine VD_Y hT rfl rfl rfl rfl (yl_indexAddrRowp (n := i) hT rfl rfl rfl rfl rfl rfl rfl rfl (by rw [hmap]; exact hlt)) rfl rfl rfl ?_
    refine VD_T (os := [66, 64]) (gs := []) (ids := [1]) (σ := ⟨[66, 64], [], [1], [1], []⟩) hT rfl rfl (tl_storeRowp (off := 2) (ls' := [.d (.int .u64 u.ID), .d (.str u.Key), .orow 4]) hT rfl rfl rfl rfl rfl rfl rfl rfl rfl rfl rfl) rfl rfl 5 rfl rfl ?_
    refine VD_end (n := 1000) hT rfl (by kernel_rfl) (by kernel_rfl) rfl rfl rfl ?_
    refine VL_ghost hX (ghost_freeze 4 rfl) ?_
    refine VL_ghost hX (ghost_unrowp 1 i (ds := [.int .u64 u.ID, .str u.Key, .seq 40 ((u.L.take k ++ p :: u.L.drop k).map ePart)]) rfl rfl) ?_
    refine VL_ghost hX (ghost_freeze 1 rfl) ?_
    refine VL_Y (n := 1000) hT (yl_pure (tag_Of p.Data (by omega)) rfl rfl rfl) rfl rfl rfl ?_
    exact endsP rfl (rUTE_eq (by rw [List.map_set]))
end Go.Cel
