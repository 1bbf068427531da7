/- CelOrd: texts in order. -/
import Derived.Test.YtflmcnpfeikoeaaGreatDoorK14
import Derived.Test.YtflmcnpfeikoeaaGreatDoorK17
set_option linter.unusedVariables false
namespace Go.Cel

theorem toList_inj {a b : ByteArray} (h : a.toList = b.toList) : a = b := by
  have h1 : (a.toList == b.toList) = (a == b) := by simp [beq_toListBytes]
  have h2 : (a.toList == b.toList) = true := by rw [h]; simp
  rw [h1] at h2
  exact eq_of_beq h2
theorem bytesLess_trans : ∀ {a b c : List UInt8}, Op.bytesLess a b = true → Op.bytesLess b c = true → Op.bytesLess a c = true
  | _, [], _, h, _ => by simp [Op.bytesLess] at h
  | _, _ :: _, [], _, h => by simp [Op.bytesLess] at h
  | [], _ :: _, _ :: _, _, _ => by simp [Op.bytesLess]
  | x :: a, y :: b, z :: c, h1, h2 => by
    simp only [Op.bytesLess, Bool.or_eq_true, Bool.and_eq_true, decide_eq_true_eq, beq_iff_eq] at h1 h2 ⊢
    rcases h1 with h1 | ⟨rfl, h1⟩
    · rcases h2 with h2 | ⟨rfl, h2⟩
      · exact .inl (UInt8.lt_trans h1 h2)
      · exact .inl h1
    · rcases h2 with h2 | ⟨rfl, h2⟩
      · exact .inl h2
      · exact .inr ⟨rfl, bytesLess_trans h1 h2⟩
theorem bytesLess_total : ∀ (a b : List UInt8), Op.bytesLess a b = true ∨ a = b ∨ Op.bytesLess b a = true
  | [], [] => .inr (.inl rfl)
  | [], _ :: _ => .inl (by simp [Op.bytesLess])
  | _ :: _, [] => .inr (.inr (by simp [Op.bytesLess]))
  | x :: a, y :: b => by
    simp only [Op.bytesLess, Bool.or_eq_true, Bool.and_eq_true, decide_eq_true_eq, beq_iff_eq]
    rcases Nat.lt_trichotomy x.toNat y.toNat with h | h | h
    · exact .inl (.inl (UInt8.lt_iff_toNat_lt.2 h))
    · have := UInt8.toNat_inj.1 h
      subst this
      rcases bytesLess_total a b with h1 | rfl | h1
      · exact .inl (.inr ⟨rfl, h1⟩)
      · exact .inr (.inl rfl)
      · exact .inr (.inr (.inr ⟨rfl, h1⟩))
    · exact .inr (.inr (.inl (UInt8.lt_iff_toNat_lt.2 h)))
theorem less_trans {a b c : ByteArray} (h1 : less a b = true) (h2 : less b c = true) : less a c = true := bytesLess_trans h1 h2
theorem less_total (a b : ByteArray) : less a b = true ∨ a = b ∨ less b a = true := by
  rcases bytesLess_total a.toList b.toList with h | h | h
  · exact .inl h
  · exact .inr (.inl (toList_inj h))
  · exact .inr (.inr h)
theorem less_asymm {a b : ByteArray} (h : less a b = true) : less b a = false := by
  cases h2 : less b a with
  | false => rfl
  | true => have := less_trans h h2; rw [less_irrefl] at this; cases this

/-- an index in order, by its entries. -/
def goodE (x : Entry) : Bool := keyOK x.Key && !((x.L.length : Int) == 0) && chainOK x.L
abbrev Sorted (l : List Entry) : Prop := l.Pairwise fun x y => less x.Key y.Key = true
theorem errOf_ne {b : Bool} : (errOf b != 0) = !b := by cases b <;> rfl
def prevL : Option ByteArray → ByteArray → Bool
  | some k, y => less k y
  | none, _ => true
theorem indexGo_iff : ∀ (l : List Entry) (prev : Option ByteArray), indexGo prev l = true ↔ (∀ x ∈ l, goodE x = true) ∧ Sorted l ∧ (∀ k, prev = some k → ∀ x ∈ l, less k x.Key = true)
  | [], prev => by simp [indexGo, Sorted]
  | x :: r, prev => by
    have ih := indexGo_iff r (some x.Key)
    simp only [indexGo]
    have hb : entryBad prev x = !(goodE x && prevL prev x.Key) := by
      unfold entryBad goodE prevL
      rw [errOf_ne]
      have e : ∀ k, ltS k x.Key = less k x.Key := fun _ => rfl
      cases prev with
      | none => cases keyOK x.Key <;> cases ((x.L.length : Int) == 0) <;> cases chainOK x.L <;> rfl
      | some k => simp only [e]; cases keyOK x.Key <;> cases less k x.Key <;> cases ((x.L.length : Int) == 0) <;> cases chainOK x.L <;> rfl
    cases hg : goodE x && prevL prev x.Key with
    | false =>
      rw [hb, hg, if_pos (show (!false) = true from rfl)]
      constructor
      · intro h; cases h
      · rintro ⟨h1, h2, h3⟩
        have g1 := h1 x (List.mem_cons_self ..)
        have : prevL prev x.Key = true := by
          cases prev with
          | none => rfl
          | some k => exact h3 k rfl x (List.mem_cons_self ..)
        rw [g1, this] at hg; cases hg
    | true =>
      have hg2 := hg
      rw [Bool.and_eq_true] at hg
      rw [hb, hg2, if_neg (show ¬ ((!true) = true) from by simp), ih]
      constructor
      · rintro ⟨h1, h2, h3⟩
        refine ⟨fun y hy => ?_, List.pairwise_cons.2 ⟨fun y hy => h3 _ rfl y hy, h2⟩, fun k hk y hy => ?_⟩
        · rcases List.mem_cons.1 hy with rfl | hy
          · exact hg.1
          · exact h1 y hy
        · subst hk
          rcases List.mem_cons.1 hy with rfl | hy
          · exact hg.2
          · exact less_trans hg.2 (h3 _ rfl y hy)
      · rintro ⟨h1, h2, h3⟩
        have h2' := List.pairwise_cons.1 h2
        exact ⟨fun y hy => h1 y (List.mem_cons_of_mem _ hy), h2'.2, fun k hk y hy => by cases hk; exact h2'.1 y hy⟩
theorem indexOK_iff {l : List Entry} : indexOK l = true ↔ l.length ≤ 60 ∧ (∀ x ∈ l, goodE x = true) ∧ Sorted l := by
  unfold indexOK
  rw [Bool.and_eq_true, indexGo_iff]
  simp
  omega
end Go.Cel

set_option linter.unusedVariables false
namespace Go.Cel

/-! The map. -/
theorem findS_shift (k : ByteArray) : ∀ (m : MS) (i : Nat), findS k m (i + 1) = (findS k m i).map fun q => (q.1 + 1, q.2)
  | [], i => rfl
  | (q, v) :: r, i => by
    simp only [findS]
    by_cases h : (k == q) = true
    · rw [if_pos h, if_pos h]; rfl
    · rw [if_neg h, if_neg h]; exact findS_shift k r (i + 1)
def look2 (k : ByteArray) : MS → ByteArray × Bool
  | [] => (⟨#[]⟩, false)
  | (q, v) :: r => if k == q then (v, true) else look2 k r
def upd2 (k d : ByteArray) : MS → MS
  | [] => [(k, d)]
  | (q, v) :: r => if k == q then (q, d) :: r else (q, v) :: upd2 k d r
def del2 (k : ByteArray) : MS → MS
  | [] => []
  | (q, v) :: r => if k == q then r else (q, v) :: del2 k r
theorem lookS_look2 (k : ByteArray) : ∀ m : MS, lookS k m = look2 k m
  | [] => rfl
  | (q, v) :: r => by
    have ih := lookS_look2 k r
    unfold lookS at ih ⊢
    simp only [findS, look2]
    by_cases h : (k == q) = true
    · rw [if_pos h, if_pos h]
    · rw [if_neg h, if_neg h, ← ih, findS_shift]
      cases findS k r 0 <;> rfl
theorem updS_upd2 (k d : ByteArray) : ∀ m : MS, updS k d m = upd2 k d m
  | [] => rfl
  | (q, v) :: r => by
    have ih := updS_upd2 k d r
    unfold updS at ih ⊢
    simp only [findS, upd2]
    by_cases h : (k == q) = true
    · rw [if_pos h, if_pos h]; rfl
    · rw [if_neg h, if_neg h, ← ih, findS_shift]
      cases findS k r 0 <;> rfl
theorem delS_del2 (k : ByteArray) : ∀ m : MS, delS k m = del2 k m
  | [] => rfl
  | (q, v) :: r => by
    have ih := delS_del2 k r
    unfold delS at ih ⊢
    simp only [findS, del2]
    by_cases h : (k == q) = true
    · rw [if_pos h, if_pos h]; rfl
    · rw [if_neg h, if_neg h, ← ih, findS_shift]
      cases findS k r 0 <;> rfl
abbrev keysS (m : MS) : List ByteArray := m.map (·.1)
theorem look2_mem {k : ByteArray} : ∀ {m : MS}, (look2 k m).2 = true ↔ k ∈ keysS m
  | [] => by simp [look2]
  | (q, v) :: r => by
    simp only [look2]
    by_cases h : (k == q) = true
    · rw [if_pos h]; have := eq_of_beq h; subst this; simp
    · rw [if_neg h, look2_mem (m := r)]
      have : k ≠ q := fun e => h (by rw [e]; simp)
      simp [this]
theorem look2_none {k : ByteArray} : ∀ {m : MS}, k ∉ keysS m → look2 k m = (⟨#[]⟩, false)
  | [], _ => rfl
  | (q, v) :: r, h => by
    simp at h
    simp only [look2]
    rw [if_neg (by simpa using h.1)]
    exact look2_none (by simpa using h.2)
theorem look2_upd (k d : ByteArray) (j : ByteArray) : ∀ m : MS, look2 j (upd2 k d m) = if j == k then (d, true) else look2 j m
  | [] => by simp [upd2, look2]
  | (q, v) :: r => by
    have ih := look2_upd k d j r
    simp only [upd2]
    by_cases h : (k == q) = true
    · have := eq_of_beq h; subst this
      rw [if_pos h]
      simp only [look2]
      split <;> rfl
    · rw [if_neg h]
      simp only [look2]
      by_cases h2 : (j == q) = true
      · have e1 := eq_of_beq h2; subst e1
        rw [if_pos h2, if_pos h2, if_neg (by intro e; exact h (by rw [eq_of_beq e]; simp))]
      · rw [if_neg h2, if_neg h2, ih]
theorem upd2_keys (k d : ByteArray) : ∀ m : MS, keysS (upd2 k d m) = if k ∈ keysS m then keysS m else keysS m ++ [k]
  | [] => rfl
  | (q, v) :: r => by
    have ih := upd2_keys k d r
    simp only [upd2]
    by_cases h : (k == q) = true
    · have := eq_of_beq h; subst this
      rw [if_pos h]; simp
    · rw [if_neg h]
      have : k ≠ q := fun e => h (by rw [e]; simp)
      simp only [keysS, List.map_cons, List.mem_cons, this, false_or] at ih ⊢
      rw [ih]
      split <;> simp
theorem del2_keys (k : ByteArray) : ∀ m : MS, keysS (del2 k m) = (keysS m).erase k
  | [] => rfl
  | (q, v) :: r => by
    have ih := del2_keys k r
    simp only [del2]
    by_cases h : (k == q) = true
    · have := eq_of_beq h; subst this
      rw [if_pos h]; simp
    · rw [if_neg h]
      have : ¬ ((q == k) = true) := fun e => h (by rw [eq_of_beq e]; simp)
      simp only [keysS, List.map_cons] at ih ⊢
      rw [List.erase_cons_tail this, ih]
theorem look2_del (k j : ByteArray) : ∀ m : MS, (keysS m).Nodup → look2 j (del2 k m) = if j == k then (⟨#[]⟩, false) else look2 j m
  | [], _ => by simp [del2, look2]
  | (q, v) :: r, hn => by
    simp only [keysS, List.map_cons, List.nodup_cons] at hn
    have ih := look2_del k j r hn.2
    simp only [del2]
    by_cases h : (k == q) = true
    · have := eq_of_beq h; subst this
      rw [if_pos h]
      simp only [look2]
      by_cases h2 : (j == k) = true
      · have := eq_of_beq h2; subst this
        rw [if_pos h2]; exact look2_none hn.1
      · rw [if_neg h2, if_neg h2]
    · rw [if_neg h]
      simp only [look2]
      by_cases h2 : (j == q) = true
      · have e1 := eq_of_beq h2; subst e1
        rw [if_pos h2, if_pos h2, if_neg (by intro e; exact h (by rw [eq_of_beq e]; simp))]
      · rw [if_neg h2, if_neg h2, ih]

/-! The index. -/
theorem sorted_split (key : ByteArray) : ∀ {l : List Entry}, Sorted l →
    ∃ A mid B, l = A ++ (mid ++ B) ∧ (∀ x ∈ A, less x.Key key = true) ∧ (∀ x ∈ B, less key x.Key = true) ∧ (mid = [] ∨ ∃ x, mid = [x] ∧ x.Key = key)
  | [], _ => ⟨[], [], [], rfl, by simp, by simp, .inl rfl⟩
  | x :: r, h => by
    have hp := List.pairwise_cons.1 h
    rcases less_total x.Key key with h1 | h1 | h1
    · obtain ⟨A, mid, B, e, hA, hB, hm⟩ := sorted_split key hp.2
      exact ⟨x :: A, mid, B, by rw [e]; rfl, fun y hy => by
        rcases List.mem_cons.1 hy with rfl | hy
        · exact h1
        · exact hA y hy, hB, hm⟩
    · exact ⟨[], [x], r, rfl, by simp, fun y hy => by rw [← h1]; exact hp.1 y hy, .inr ⟨x, rfl, h1⟩⟩
    · exact ⟨[], [], x :: r, rfl, by simp, fun y hy => by
        rcases List.mem_cons.1 hy with rfl | hy
        · exact h1
        · exact less_trans h1 (hp.1 y hy), .inl rfl⟩
theorem ne_of_less {a b : ByteArray} (h : less a b = true) : (a == b) = false := by
  cases hb : a == b with
  | false => rfl
  | true => rw [eq_of_beq hb, less_irrefl] at h; cases h
theorem ne_of_less' {a b : ByteArray} (h : less a b = true) : (b == a) = false := by
  cases hb : b == a with
  | false => rfl
  | true => rw [eq_of_beq hb, less_irrefl] at h; cases h
theorem find_none_A {key : ByteArray} {A : List Entry} (h : ∀ x ∈ A, less x.Key key = true) : A.find? (fun x => x.Key == key) = none := by
  rw [List.find?_eq_none]; intro x hx; rw [ne_of_less (h x hx)]; simp
theorem find_none_B {key : ByteArray} {B : List Entry} (h : ∀ x ∈ B, less key x.Key = true) : B.find? (fun x => x.Key == key) = none := by
  rw [List.find?_eq_none]; intro x hx; rw [ne_of_less' (h x hx)]; simp
theorem getV_find (l : List Entry) (key : ByteArray) : getV l key = match l.find? (fun x => x.Key == key) with | some x => x.L | none => [] := by
  unfold getV findI idxOf
  cases h : l.findIdx? (fun x => x.Key == key) with
  | none =>
    have h2 : l.find? (fun x => x.Key == key) = none := by
      rw [List.findIdx?_eq_none_iff] at h
      rw [List.find?_eq_none]
      intro x hx; rw [h x hx]; simp
    rw [h2]; rfl
  | some i =>
    rw [List.findIdx?_eq_some_iff_getElem] at h
    obtain ⟨hi, h1, h2⟩ := h
    have h3 : l.find? (fun x => x.Key == key) = some l[i] := by
      rw [List.find?_eq_some_iff_getElem]
      exact ⟨h1, i, hi, rfl, fun j hj => by have := h2 j hj; simpa using this⟩
    rw [h3]
    simp [List.getD_eq_getElem?_getD, hi]
    intro hneg; omega
theorem atI_split {key : ByteArray} {A mid B : List Entry} (hA : ∀ x ∈ A, less x.Key key = true) (hB : ∀ x ∈ B, less key x.Key = true) (hm : mid = [] ∨ ∃ x, mid = [x] ∧ x.Key = key) : atI (A ++ (mid ++ B)) key = A.length := by
  unfold atI
  rw [List.countP_append, List.countP_append]
  have h1 : A.countP (fun x => less x.Key key) = A.length := List.countP_eq_length.2 hA
  have h2 : B.countP (fun x => less x.Key key) = 0 := List.countP_eq_zero.2 fun x hx => by rw [less_asymm (hB x hx)]; simp
  have h3 : mid.countP (fun x => less x.Key key) = 0 := by
    rcases hm with rfl | ⟨x, rfl, hx⟩
    · rfl
    · simp [hx, less_irrefl]
  omega
def midC (key : ByteArray) (c : List Version) : List Entry := if c.isEmpty then [] else [⟨key, c⟩]
theorem putIx_split {key : ByteArray} {A mid B : List Entry} (c : List Version) (hA : ∀ x ∈ A, less x.Key key = true) (hB : ∀ x ∈ B, less key x.Key = true) (hm : mid = [] ∨ ∃ x, mid = [x] ∧ x.Key = key) : putIx (A ++ (mid ++ B)) key c = A ++ (midC key c ++ B) := by
  unfold putIx
  rw [atI_split hA hB hm]
  have hf : decide (0 ≤ findI (A ++ (mid ++ B)) key) = !mid.isEmpty := by
    unfold findI
    rw [idxOf_any, List.any_append, List.any_append]
    have h1 : (A.any fun x => x.Key == key) = false := by rw [List.any_eq_false]; intro x hx; rw [ne_of_less (hA x hx)]; simp
    have h2 : (B.any fun x => x.Key == key) = false := by rw [List.any_eq_false]; intro x hx; rw [ne_of_less' (hB x hx)]; simp
    rw [h1, h2]
    rcases hm with rfl | ⟨x, rfl, hx⟩
    · rfl
    · simp [hx]
  rw [hf, List.take_left, List.append_assoc]
  congr 1
  unfold midC
  congr 1
  rcases hm with rfl | ⟨x, rfl, hx⟩
  · simp
  · simp
end Go.Cel

set_option linter.unusedVariables false
namespace Go.Cel

theorem noE_zero (e : Int) : noE 0 (e != 0) e = e := by
  unfold noE
  by_cases h : e = 0
  · subst h; rfl
  · rw [if_pos (by simp [h])]
theorem noE_ne {e : Int} (h : e ≠ 0) (w : Bool) (x : Int) : noE e w x = e := by
  unfold noE; rw [if_neg (by simp [h])]
theorem closeB_ne {b was : Bucket} {e : Int} (h : e ≠ 0) : closeB b e was = (was, e) := by
  unfold closeB closeE
  rw [noE_ne h, if_pos (by simpa using h)]
theorem closeB_ok {b was : Bucket} (h : IntKind.i64.wrap (octB b) ≤ 20000) : closeB b 0 was = (b, 0) := by
  have e : closeE b 0 = 0 := by
    unfold closeE noE
    rw [if_neg (by simp; omega)]
  unfold closeB
  rw [e]; rfl
theorem closeB_big {b was : Bucket} (h : ¬ IntKind.i64.wrap (octB b) ≤ 20000) : closeB b 0 was = (was, 6) := by
  have e : closeE b 0 = 6 := by
    unfold closeE noE
    rw [if_pos (by simp; omega)]
  unfold closeB
  rw [e]; rfl
theorem putI_cases (l : List Entry) (k : ByteArray) (c : List Version) : (putI l k c).2 ≠ 0 ∨ (putIbad l k c = false ∧ (putIx l k c).length ≤ 60 ∧ putI l k c = (putIx l k c, 0)) := by
  unfold putI
  cases hb : putIbad l k c with
  | true => left; simp
  | false =>
    by_cases h : (60 : Int) < ((putIx l k c).length : Int)
    · left; simp [h]
    · right; refine ⟨rfl, by omega, by simp [h]⟩
theorem laid_cases (g : List Version → Int → List Version × Int) (b : Bucket) (k : ByteArray) (hs : b.State = 0) :
    ((laidB g b k).1 = b ∧ (laidB g b k).2.1 = 0 ∧ (laidB g b k).2.2 ≠ 0) ∨
    (openE b k = 0 ∧ (g (getV b.L k) 0).2 = 0 ∧ putIbad b.L k (g (getV b.L k) 0).1 = false ∧ (putIx b.L k (g (getV b.L k) 0).1).length ≤ 60 ∧ IntKind.i64.wrap (octB { b with L := putIx b.L k (g (getV b.L k) 0).1 }) ≤ 20000 ∧
      laidB g b k = ({ b with L := putIx b.L k (g (getV b.L k) 0).1 }, 0, 0)) := by
  have e1 : lastN b = 0 := by unfold lastN; rw [hs]; rfl
  have e2 : lastB b = b := by unfold lastB; rw [hs]; rfl
  have e3 : ∀ e, lastE b e = e := fun e => by unfold lastE; rw [hs]; rfl
  by_cases h1 : openE b k = 0
  · have hv : versB (fun l => g l 0) b (openE b k) k = if (g (getV b.L k) 0).2 == 0 then ({ b with L := (putI b.L k (g (getV b.L k) 0).1).1 }, (putI b.L k (g (getV b.L k) 0).1).2) else (b, (g (getV b.L k) 0).2) := by
      unfold versB
      rw [h1]
      simp only [bne_self_eq_false, Bool.false_eq_true, if_false]
      rw [noE_zero]
    unfold laidB laidV
    rw [e1, e2, e3, hv]
    generalize g (getV b.L k) 0 = R
    obtain ⟨c, re⟩ := R
    simp only
    by_cases h2 : re = 0
    · subst h2
      simp only [BEq.rfl, if_true]
      rcases putI_cases b.L k c with h3 | ⟨h3, h4, h5⟩
      · left
        rw [closeB_ne h3]
        simp [h3]
      · rw [h5]
        by_cases h6 : IntKind.i64.wrap (octB { b with L := putIx b.L k c }) ≤ 20000
        · right
          rw [closeB_ok h6]
          exact ⟨h1, by first | rfl | trivial, h3, h4, h6, rfl⟩
        · left
          rw [closeB_big h6]
          simp
    · left
      have : (re == 0) = false := by simpa using h2
      rw [this]
      simp only [Bool.false_eq_true, if_false]
      rw [closeB_ne h2]
      simp [h2]
  · left
    have hv : versB (fun l => g l 0) b (openE b k) k = (b, openE b k) := by
      unfold versB; rw [if_pos (by simpa using h1)]
    unfold laidB laidV
    rw [e1, e2, e3, hv, closeB_ne h1]
    simp [h1]

theorem chainOK_one {v : Version} (h : v.ID = 0) : chainOK [v] = mayV v := by
  unfold chainOK
  have e : chainGo 281474976710656 false none [v] = true := by
    simp only [chainGo, h]
    simp
  rw [e]
  simp
theorem mayV_small {v : Version} (h : mayV v = true) : (v.Data.size : Int) ≤ 2000 := by
  unfold mayV at h; simp at h; omega
def oneE (x : Entry) : Prop := ∃ v, x.L = [v] ∧ v.Mark = false ∧ v.ID = 0
theorem octE_le : ∀ {l : List Entry}, (∀ x ∈ l, oneE x ∧ goodE x = true) → 0 ≤ octE l ∧ octE l ≤ 2000 * (l.length : Int)
  | [], _ => by simp [octE]
  | x :: r, h => by
    obtain ⟨⟨v, hv, _, hid⟩, hg⟩ := h x (List.mem_cons_self ..)
    have ih := octE_le (l := r) fun y hy => h y (List.mem_cons_of_mem _ hy)
    unfold goodE at hg
    rw [hv, chainOK_one hid] at hg
    simp only [Bool.and_eq_true] at hg
    have := mayV_small hg.2
    simp only [octE, hv, octV, List.length_cons]
    omega

/-- what holds of the bucket and the map. -/
structure JOff (b : Bucket) (m : MS) : Prop where
  name : b.Name = boxB
  st : b.State = 0
  last : b.Last = 0
  up : b.Up = []
  idx : indexOK b.L = true
  one : ∀ x ∈ b.L, oneE x
  oct : octE b.L ≤ 20000
  nod : (keysS m).Nodup
  look : ∀ k, look2 k m = match b.L.find? (fun x => x.Key == k) with | some x => ((x.L.headD default).Data, true) | none => (⟨#[]⟩, false)
  len : m.length = b.L.length
theorem JOff.octs {b : Bucket} {m : MS} (j : JOff b m) : 0 ≤ octE b.L := (octE_le fun x hx => ⟨j.one x hx, (indexOK_iff.1 j.idx).2.1 x hx⟩).1
theorem JOff.bOK {b : Bucket} {m : MS} (j : JOff b m) : Go.Cel.bOK b = true := by
  have h1 : IntKind.i64.wrap (octB b) = octE b.L := by
    unfold octB
    rw [j.up]
    have h2 := j.octs
    have h3 := j.oct
    simp only [octU]
    rw [IntKind.wrap_i64]; omega
  have hb : bucketOK boxB = true := by decide +kernel
  unfold Go.Cel.bOK bOK2 bOK1
  rw [h1, j.name, j.st, j.last, j.up, j.idx, hb]
  have h3 := j.oct
  have h4 : (b.L.all fun x => !x.L.any (far b)) = true := by
    rw [List.all_eq_true]
    intro x hx
    obtain ⟨v, hv, _, hid⟩ := j.one x hx
    rw [hv]
    simp [far, j.last, j.st, hid]
  rw [h4]
  simp [uploadsOK, uploadsGo, errOf, h3]
theorem JOff.openE {b : Bucket} {m : MS} (j : JOff b m) (k : ByteArray) : Go.Cel.openE b k = if keyOK k then 0 else 1 := by
  unfold Go.Cel.openE noE
  rw [j.bOK]
  cases keyOK k <;> rfl
/-- the question behind each step. -/
theorem JOff.good {b : Bucket} {m : MS} (j : JOff b m) (k : ByteArray) : offBad2 b k m = false := by
  unfold offBad2
  rw [lookS_look2, j.look k, j.len]
  have hi := indexOK_iff.1 j.idx
  unfold getB
  rw [j.openE, getV_find]
  cases hf : b.L.find? (fun x => x.Key == k) with
  | none =>
    cases keyOK k with
    | false => simp
    | true => simp [atV, chainOK, chainGo, errOf]
  | some x =>
    have hx := List.mem_of_find?_eq_some hf
    have hk : x.Key = k := by have := List.find?_some hf; simpa using this
    obtain ⟨v, hv, hmk, hid⟩ := j.one x hx
    have hg := hi.2.1 x hx
    unfold goodE at hg
    simp only [Bool.and_eq_true] at hg
    rw [← hk, hg.1.1]
    have hc := hg.2
    simp [hv, atV, errOf, hmk] at hc ⊢
    simp [hc]
end Go.Cel

set_option linter.unusedVariables false
namespace Go.Cel

theorem midC_one (k : ByteArray) (c : List Version) : midC k c = [] ∨ ∃ x, midC k c = [x] ∧ x.Key = k := by
  unfold midC
  cases c with
  | nil => left; rfl
  | cons v r => right; exact ⟨⟨k, v :: r⟩, rfl, rfl⟩
theorem find_mid {k j : ByteArray} {M : List Entry} (hm : M = [] ∨ ∃ x, M = [x] ∧ x.Key = k) (hj : (j == k) = false) : M.find? (fun x => x.Key == j) = none := by
  rcases hm with rfl | ⟨x, rfl, hx⟩
  · rfl
  · rw [List.find?_eq_none]
    intro y hy
    simp at hy; subst hy
    rw [hx]
    intro e
    rw [eq_of_beq e] at hj; simp at hj

/-- what a chain tells. -/
def headLook : List Version → ByteArray × Bool
  | [] => (⟨#[]⟩, false)
  | v :: _ => (v.Data, true)
theorem J_turn {b : Bucket} {m m' : MS} {k : ByteArray} (j : JOff b m) (c : List Version) (hbad : putIbad b.L k c = false) (hlen : (putIx b.L k c).length ≤ 60) (hoct : IntKind.i64.wrap (octB { b with L := putIx b.L k c }) ≤ 20000)
    (hc : c = [] ∨ ∃ v, c = [v] ∧ v.Mark = false ∧ v.ID = 0) (hnod : (keysS m').Nodup)
    (hlook : ∀ q, look2 q m' = if q == k then headLook c else look2 q m)
    (hl : m'.length + (if (look2 k m).2 then 1 else 0) = m.length + c.length) : JOff { b with L := putIx b.L k c } m' := by
  have hi := indexOK_iff.1 j.idx
  obtain ⟨A, mid, B, hL, hA, hB, hm⟩ := sorted_split k hi.2.2
  have hput : putIx b.L k c = A ++ (midC k c ++ B) := by rw [hL]; exact putIx_split c hA hB hm
  have hm' := midC_one k c
  unfold putIbad at hbad
  simp only [Bool.or_eq_false_iff] at hbad
  have hkey : keyOK k = true := by simpa using hbad.1.2
  have hch : chainOK c = true := by have := hbad.2; unfold errOf at this; cases h : chainOK c with | true => rfl | false => rw [h] at this; simp at this
  rw [hput] at hlen hoct ⊢
  have hsort := hi.2.2
  rw [hL] at hsort
  have hs1 := List.pairwise_append.1 hsort
  have hs2 := List.pairwise_append.1 hs1.2.1
  have hgood : ∀ x ∈ A ++ (midC k c ++ B), oneE x ∧ goodE x = true := by
    intro x hx
    rcases List.mem_append.1 hx with h | h
    · exact ⟨j.one x (by rw [hL]; exact List.mem_append.2 (.inl h)), hi.2.1 x (by rw [hL]; exact List.mem_append.2 (.inl h))⟩
    · rcases List.mem_append.1 h with h | h
      · rcases hc with rfl | ⟨v, rfl, h1, h2⟩
        · simp [midC] at h
        · simp [midC] at h
          subst h
          refine ⟨⟨v, rfl, h1, h2⟩, ?_⟩
          unfold goodE
          rw [hkey, hch]; rfl
      · exact ⟨j.one x (by rw [hL]; exact List.mem_append.2 (.inr (List.mem_append.2 (.inr h)))), hi.2.1 x (by rw [hL]; exact List.mem_append.2 (.inr (List.mem_append.2 (.inr h))))⟩
  have hocts := octE_le hgood
  have hfA := find_none_A hA
  have hfB := find_none_B hB
  have hfm : (mid.find? fun x => x.Key == k) = mid.head? := by
    rcases hm with rfl | ⟨x, rfl, hx⟩
    · rfl
    · simp [hx]
  have hfc : ((midC k c).find? fun x => x.Key == k) = (midC k c).head? := by
    rcases hm' with h | ⟨x, h, hx⟩
    · rw [h]; rfl
    · rw [h]; simp [hx]
  refine ⟨j.name, j.st, j.last, j.up, ?_, fun x hx => (hgood x hx).1, ?_, hnod, ?_, ?_⟩
  · refine indexOK_iff.2 ⟨hlen, fun x hx => (hgood x hx).2, ?_⟩
    refine List.pairwise_append.2 ⟨hs1.1, List.pairwise_append.2 ⟨?_, hs2.2.1, fun x hx y hy => ?_⟩, fun x hx y hy => ?_⟩
    · rcases hm' with h | ⟨x, h, _⟩ <;> rw [h] <;> simp
    · rcases hm' with h | ⟨z, h, hz⟩
      · rw [h] at hx; cases hx
      · rw [h] at hx; simp at hx; subst hx; rw [hz]; exact hB y hy
    · rcases List.mem_append.1 hy with hy | hy
      · rcases hm' with h | ⟨z, h, hz⟩
        · rw [h] at hy; cases hy
        · rw [h] at hy; simp at hy; subst hy; rw [hz]; exact hA x hx
      · exact hs1.2.2 x hx y (List.mem_append.2 (.inr hy))
  · unfold octB at hoct
    rw [j.up] at hoct
    simp only [octU] at hoct
    rw [IntKind.wrap_i64] at hoct
    have hlen' : ((A ++ (midC k c ++ B)).length : Int) ≤ 60 := by omega
    show octE (A ++ (midC k c ++ B)) ≤ 20000
    omega
  · intro q
    rw [hlook q]
    cases hq : q == k with
    | true =>
      have := eq_of_beq hq; subst this
      simp only [if_true]
      rw [List.find?_append, List.find?_append, hfA, hfB, hfc]
      unfold midC
      cases c with
      | nil => rfl
      | cons v r => rfl
    | false =>
      simp only [Bool.false_eq_true, if_false]
      rw [j.look q, hL, List.find?_append, List.find?_append, List.find?_append, List.find?_append, find_mid hm hq, find_mid hm' hq]
  · have hk2 : (look2 k m).2 = !mid.isEmpty := by
      rw [j.look k, hL, List.find?_append, List.find?_append, hfA, hfB, hfm]
      rcases hm with rfl | ⟨x, rfl, hx⟩ <;> rfl
    rw [hk2, j.len, hL] at hl
    have hcl : (midC k c).length = c.length := by
      rcases hc with rfl | ⟨v, rfl, _⟩ <;> rfl
    show m'.length = (A ++ (midC k c ++ B)).length
    rcases hm with rfl | ⟨x, rfl, hx⟩
    · simp only [List.length_append, hcl] at hl ⊢
      simp at hl; omega
    · simp only [List.length_append, hcl] at hl ⊢
      simp at hl; omega
end Go.Cel

set_option linter.unusedVariables false
namespace Go.Cel

theorem J_chain {b : Bucket} {m : MS} (j : JOff b m) (k : ByteArray) : (getV b.L k = [] ∧ (look2 k m).2 = false) ∨ ∃ v, getV b.L k = [v] ∧ v.ID = 0 ∧ (look2 k m).2 = true := by
  rw [getV_find, j.look k]
  cases hf : b.L.find? (fun x => x.Key == k) with
  | none => left; exact ⟨rfl, rfl⟩
  | some x =>
    obtain ⟨v, hv, _, hid⟩ := j.one x (List.mem_of_find?_eq_some hf)
    right; exact ⟨v, hv, hid, rfl⟩
theorem dropV_one {l : List Version} (h : l = [] ∨ ∃ v, l = [v] ∧ v.ID = 0) : dropV l 0 = [] := by
  rcases h with rfl | ⟨v, rfl, hv⟩
  · rfl
  · simp [dropV, hv]
theorem put_res {l : List Version} (h : l = [] ∨ ∃ v, l = [v] ∧ v.ID = 0) {w : Version} (hw : w.ID = 0) (h0 : (putE l 0 w).2 = 0) : (putE l 0 w).1 = [w] := by
  unfold putE at h0 ⊢
  have h1 : layV 0 l w = ([w], 0) := by
    unfold layV
    rw [if_neg (by decide)]
    unfold overV
    rw [dropV_one h]
    cases w; simp at hw; subst hw; rfl
  rw [h1] at h0 ⊢
  cases hb : putBad l 0 w with
  | true => rw [hb] at h0; simp at h0
  | false => simp
theorem del_res {l : List Version} (h : l = [] ∨ ∃ v, l = [v] ∧ v.ID = 0) (h0 : (dropE l 0).2 = 0) : (dropE l 0).1 = [] ∧ l ≠ [] := by
  have hd := dropV_one h
  unfold dropE at h0 ⊢
  cases hc : errOf (chainOK l) != 0 with
  | true => rw [hc] at h0; simp at h0
  | false =>
    rw [hc] at h0
    simp only [Bool.false_eq_true, if_false] at h0 ⊢
    cases hf : decide (findV l 0 < 0) with
    | true => rw [hf] at h0; simp at h0
    | false =>
      rw [hf] at h0
      simp only [Bool.false_eq_true, if_false]
      refine ⟨hd, ?_⟩
      rintro rfl
      simp [findV, idxOf] at hf

theorem J_put {b : Bucket} {m : MS} (j : JOff b m) (k data : ByteArray) (t : Int) : (putB b k data t).2.1 = 0 ∧ JOff (putB b k data t).1 (if (putB b k data t).2.2 == 0 then updS k data m else m) := by
  unfold putB
  rcases laid_cases (fun l id => putE l b.State ⟨id, data, false, t⟩) b k j.st with ⟨h1, h2, h3⟩ | ⟨h1, h2, h3, h4, h5, h6⟩
  · rw [h1, h2, if_neg (by simpa using h3)]
    exact ⟨rfl, j⟩
  · rw [h6]
    refine ⟨rfl, ?_⟩
    simp only at h2 h3 h4 h5 ⊢
    have hch := J_chain j k
    have hcc : getV b.L k = [] ∨ ∃ v, getV b.L k = [v] ∧ v.ID = 0 := by
      rcases hch with ⟨h, _⟩ | ⟨v, h, h', _⟩
      · exact .inl h
      · exact .inr ⟨v, h, h'⟩
    have hr : (putE (getV b.L k) b.State ⟨0, data, false, t⟩).1 = [⟨0, data, false, t⟩] := by
      rw [j.st] at h2 ⊢
      exact put_res hcc rfl h2
    rw [hr] at h3 h4 h5 ⊢
    simp only [BEq.rfl, if_true]
    have hnk : (keysS (upd2 k data m)).Nodup := by
      rw [upd2_keys]
      split
      · exact j.nod
      · rename_i hk
        rw [List.nodup_append]
        exact ⟨j.nod, by simp, fun a ha b hb => by simp at hb; subst hb; rintro rfl; exact hk ha⟩
    refine J_turn (m' := updS k data m) j [⟨0, data, false, t⟩] h3 h4 h5 (.inr ⟨_, rfl, rfl, rfl⟩) (by rw [updS_upd2]; exact hnk) (fun q => by rw [updS_upd2]; exact look2_upd k data q m) ?_
    have h7 : (updS k data m).length = if k ∈ keysS m then m.length else m.length + 1 := by
      have := congrArg List.length (upd2_keys k data m)
      rw [updS_upd2]
      simp only [keysS, List.length_map] at this
      rw [this]; split <;> simp
    rw [h7]
    by_cases hk : k ∈ keysS m
    · rw [if_pos hk, look2_mem.2 hk]; simp
    · have : (look2 k m).2 = false := by
        cases h : (look2 k m).2 with
        | false => rfl
        | true => exact absurd (look2_mem.1 h) hk
      rw [if_neg hk, this]; simp
theorem J_del {b : Bucket} {m : MS} (j : JOff b m) (k : ByteArray) (t : Int) : (deleteB b k t).2.1 = 0 ∧ JOff (deleteB b k t).1 (if (deleteB b k t).2.2 == 0 then delS k m else m) := by
  unfold deleteB
  rcases laid_cases (fun l id => deleteE l b.State id t) b k j.st with ⟨h1, h2, h3⟩ | ⟨h1, h2, h3, h4, h5, h6⟩
  · rw [h1, h2, if_neg (by simpa using h3)]
    exact ⟨rfl, j⟩
  · rw [h6]
    refine ⟨rfl, ?_⟩
    simp only at h2 h3 h4 h5 ⊢
    have hde : ∀ l : List Version, deleteE l b.State 0 t = dropE l 0 := fun l => by unfold deleteE; rw [j.st]; rfl
    rw [hde] at h2 h3 h4 h5 ⊢
    have hch := J_chain j k
    have hcc : getV b.L k = [] ∨ ∃ v, getV b.L k = [v] ∧ v.ID = 0 := by
      rcases hch with ⟨h, _⟩ | ⟨v, h, h', _⟩
      · exact .inl h
      · exact .inr ⟨v, h, h'⟩
    obtain ⟨hr, hne⟩ := del_res hcc h2
    rw [hr] at h3 h4 h5 ⊢
    simp only [BEq.rfl, if_true]
    have hlk : (look2 k m).2 = true := by
      rcases hch with ⟨h, _⟩ | ⟨_, _, _, h⟩
      · exact absurd h hne
      · exact h
    have hk := look2_mem.1 hlk
    have hkeys := del2_keys k m
    refine J_turn (m' := delS k m) j [] h3 h4 h5 (.inl rfl) (by rw [delS_del2, hkeys]; exact j.nod.erase k) (fun q => by rw [delS_del2]; exact look2_del k q m j.nod) ?_
    have h7 := congrArg List.length hkeys
    rw [List.length_erase_of_mem hk] at h7
    simp only [keysS, List.length_map] at h7
    have h8 : 0 < m.length := by
      have := List.length_pos_of_mem hk
      simpa [keysS] using this
    rw [delS_del2, h7, hlk]; simp; omega

theorem J_new : JOff bk0 [] := by
  refine ⟨rfl, rfl, rfl, rfl, rfl, ?_, ?_, ?_, fun k => rfl, rfl⟩
  · intro x hx; cases hx
  · decide
  · exact List.nodup_nil
theorem J_step {b : Bucket} {m : MS} (j : JOff b m) (i : Nat) (a : ActA) (ha : 0 ≤ a.Kind) : ∃ b' m', offStep b m i a = some (b', m') ∧ JOff b' m' := by
  unfold offStep
  by_cases h1 : 2 < kindA (cutA a)
  · rw [if_pos (by simpa using h1)]
    exact ⟨b, m, rfl, j⟩
  rw [if_neg (by simpa using h1)]
  simp only
  have hk0 : 0 ≤ kindA (cutA a) := Int.tmod_nonneg _ ha
  have hk : kindA (offAct a i) = kindA (cutA a) := rfl
  have key : ∀ d : DidA, d.ID = 0 → JOff d.B (offM2 d (offAct a i) (offM1 d (offAct a i) m)) → ∃ b' m', (if offBad1 d = true then none else if offBad2 d.B (offAct a i).Key (offM2 d (offAct a i) (offM1 d (offAct a i) m)) = true then none else some (d.B, offM2 d (offAct a i) (offM1 d (offAct a i) m))) = some (b', m') ∧ JOff b' m' := by
    intro d hd jd
    have hb1 : offBad1 d = false := by unfold offBad1; rw [hd, jd.last]; rfl
    rw [hb1, jd.good]
    exact ⟨_, _, rfl, jd⟩
  by_cases h2 : kindA (cutA a) = 2
  · have hd : doA b (offAct a i) = ⟨(deleteB b (offAct a i).Key (offAct a i).At).1, (deleteB b (offAct a i).Key (offAct a i).At).2.1, ⟨#[]⟩, (deleteB b (offAct a i).Key (offAct a i).At).2.2⟩ := by
      unfold doA; rw [hk, h2]; rfl
    obtain ⟨h3, h4⟩ := J_del j (offAct a i).Key (offAct a i).At
    refine key _ (by rw [hd]; exact h3) ?_
    have e1 : offM1 (doA b (offAct a i)) (offAct a i) m = m := by unfold offM1; rw [hk, h2]; simp
    have e2 : offM2 (doA b (offAct a i)) (offAct a i) m = if (deleteB b (offAct a i).Key (offAct a i).At).2.2 == 0 then delS (offAct a i).Key m else m := by unfold offM2; rw [hk, h2, hd]; simp
    rw [e1, e2, hd]
    exact h4
  · have hd : doA b (offAct a i) = ⟨(putB b (offAct a i).Key (offAct a i).Data (offAct a i).At).1, (putB b (offAct a i).Key (offAct a i).Data (offAct a i).At).2.1, ⟨#[]⟩, (putB b (offAct a i).Key (offAct a i).Data (offAct a i).At).2.2⟩ := by
      have h5 : kindA (cutA a) = 0 ∨ kindA (cutA a) = 1 := by omega
      unfold doA; rw [hk]
      rcases h5 with h5 | h5 <;> rw [h5] <;> rfl
    obtain ⟨h3, h4⟩ := J_put j (offAct a i).Key (offAct a i).Data (offAct a i).At
    refine key _ (by rw [hd]; exact h3) ?_
    have e1 : offM1 (doA b (offAct a i)) (offAct a i) m = if (putB b (offAct a i).Key (offAct a i).Data (offAct a i).At).2.2 == 0 then updS (offAct a i).Key (offAct a i).Data m else m := by
      have h6 : decide (kindA (cutA a) < 2) = true := decide_eq_true (by omega)
      unfold offM1; rw [hk, h6, hd]; simp
    have e2 : ∀ q : MS, offM2 (doA b (offAct a i)) (offAct a i) q = q := fun q => by unfold offM2; rw [hk]; simp [h2]
    rw [e1, e2, hd]
    exact h4
theorem off_all (l : List ActA) (hl : ∀ a ∈ l, 0 ≤ a.Kind) : ∀ i, ∃ b m, offRun l i = some (b, m) ∧ JOff b m
  | 0 => ⟨bk0, [], rfl, J_new⟩
  | i + 1 => by
    obtain ⟨b, m, h1, h2⟩ := off_all l hl i
    rw [offRun, h1]
    simp only
    cases hi : l[i]? with
    | none => exact ⟨b, m, rfl, h2⟩
    | some a => exact J_step h2 i a (hl a (List.mem_of_getElem? hi))
end Go.Cel
