/- CelR: calls that are handed blocks of one's own. -/
import Derived.Test.YtflmcnpfeikoeaaGreatDoorK04
set_option linter.unusedVariables false
set_option linter.unusedSimpArgs false
namespace Go.Cel
variable {P : Program} {T : Nat → Ty} {X : CtxD} {ρ : Rho} {M : Imm} {r s s' : St} {a : Act} {W : World} {p : Path} {o : Oper} {v : A}

/-! Other names. -/
abbrev Nm := List (Nat × Nat)
def nmCs (m : Nm) : List C → Option (List C)
  | [] => some []
  | .d x :: r => match nmCs m r with
    | some l => some (.d x :: l)
    | none => none
  | .ptr id off :: r => match look id m, nmCs m r with
    | some j, some l => some (.ptr j off :: l)
    | _, _ => none
def nmL {β : Type} (m : Nm) (l : L) (k : L → Option β) : Option β :=
  match l with
  | .d x => k (.d x)
  | .ptr id off => match look id m with | some j => k (.ptr j off) | none => none
  | .orow id => match look id m with | some j => k (.orow j) | none => none
  | .optr id i off sz => match look id m with | some j => k (.optr j i off sz) | none => none
  | .osl id lo hi sz => match look id m with | some j => k (.osl j lo hi sz) | none => none
  | .omap id => match look id m with | some j => k (.omap j) | none => none
  | .ofn f a b => match nmCs m a, nmCs m b with
    | some a', some b' => k (.ofn f a' b')
    | _, _ => none
def nmLs {β : Type} (m : Nm) (k : List L → Option β) : List L → List L → Option β
  | [], acc => revGo acc [] k
  | l :: r, acc => nmL m l fun l' => nmLs m k r (l' :: acc)
def nmB {β : Type} (m : Nm) (b : B) (k : B → Option β) : Option β :=
  match b with
  | .l x => nmL m x fun y => k (.l y)
  | .agg cs => nmLs m (fun cs => k (.agg cs)) cs []
def nmBs {β : Type} (m : Nm) (k : List B → Option β) : List B → List B → Option β
  | [], acc => revGo acc [] k
  | b :: r, acc => nmB m b fun b' => nmBs m k r (b' :: acc)
def nmA {β : Type} (m : Nm) (v : A) (k : A → Option β) : Option β :=
  match v with
  | .b x => nmB m x fun y => k (.b y)
  | .tup vs => nmBs m (fun vs => k (.tup vs)) vs []
  | .undef => k .undef
def nmBlk {β : Type} (m : Nm) (b : Blk) (k : Blk → Option β) : Option β :=
  match b with
  | .cells cs t => nmLs m (fun cs => k (.cells cs t)) cs []
  | .row t es => k (.row t es)
  | .spread t es => k (.spread t es)
  | .rowp t es i cs => nmLs m (fun cs => k (.rowp t es i cs)) cs []
  | .map t x => k (.map t x)
def nmO {β : Type} (m : Nm) (k : List (Nat × Blk) → Option β) : List (Nat × Blk) → List (Nat × Blk) → Option β
  | [], acc => revGo acc [] k
  | (i, b) :: r, acc => match look i m with
    | some j => nmBlk m b fun b' => nmO m k r ((j, b') :: acc)
    | none => none

/-- m renames l to l'. -/
def NmL (m : Nm) (l l' : L) : Prop := ∀ (ρ ρ' : Rho), (∀ i j, look i m = some j → (∀ v, ρ i = some v → ρ' j = some v)) → ∀ (P : Program) (M : Imm) (x : Value), DenL P ρ M l x → DenL P ρ' M l' x
def NmLb (m : Nm) (l l' : L) : Prop := ∀ (ρ ρ' : Rho), (∀ i j, look i m = some j → (∀ v, ρ' j = some v → ρ i = some v)) → ∀ (P : Program) (M : Imm) (x : Value), DenL P ρ' M l' x → DenL P ρ M l x

theorem nmCs_some {m : Nm} : ∀ {cs cs' : List C}, nmCs m cs = some cs' → ∀ (ρ ρ' : Rho) (P : Program) (M : Imm),
    ((∀ i j, look i m = some j → (∀ v, ρ i = some v → ρ' j = some v)) → ∀ vs, All2 (DenC P ρ M) cs vs → All2 (DenC P ρ' M) cs' vs) ∧ ((∀ i j, look i m = some j → (∀ v, ρ' j = some v → ρ i = some v)) → ∀ vs, All2 (DenC P ρ' M) cs' vs → All2 (DenC P ρ M) cs vs)
  | [], cs', h, ρ, ρ', P, M => by
    simp [nmCs] at h; subst h
    exact ⟨fun _ vs h => by cases vs <;> simp_all [All2], fun _ vs h => by cases vs <;> simp_all [All2]⟩
  | .d x :: r, cs', h, ρ, ρ', P, M => by
    simp only [nmCs] at h
    split at h
    · rename_i l hl
      simp at h; subst h
      have ih := nmCs_some hl ρ ρ' P M
      refine ⟨fun hf vs hv => ?_, fun hf vs hv => ?_⟩
      · cases vs with
        | nil => exact hv.elim
        | cons u us => exact ⟨hv.1, ih.1 hf us hv.2⟩
      · cases vs with
        | nil => exact hv.elim
        | cons u us => exact ⟨hv.1, ih.2 hf us hv.2⟩
    · cases h
  | .ptr id off :: r, cs', h, ρ, ρ', P, M => by
    simp only [nmCs] at h
    split at h
    · rename_i j l hj hl
      simp at h; subst h
      have ih := nmCs_some hl ρ ρ' P M
      refine ⟨fun hf vs hv => ?_, fun hf vs hv => ?_⟩
      · cases vs with
        | nil => exact hv.elim
        | cons u us =>
          obtain ⟨⟨g, h1, h2⟩, h3⟩ := hv
          exact ⟨⟨g, hf _ _ hj _ h1, h2⟩, ih.1 hf us h3⟩
      · cases vs with
        | nil => exact hv.elim
        | cons u us =>
          obtain ⟨⟨g, h1, h2⟩, h3⟩ := hv
          exact ⟨⟨g, hf _ _ hj _ h1, h2⟩, ih.2 hf us h3⟩
    · cases h

theorem nmL_some {β : Type} {m : Nm} {l : L} {k : L → Option β} {y : β} (h : nmL m l k = some y) : ∃ l', NmL m l l' ∧ NmLb m l l' ∧ k l' = some y := by
  unfold nmL at h
  split at h
  · rename_i d0
    exact ⟨.d d0, fun _ _ _ _ _ _ h => h, fun _ _ _ _ _ _ h => h, h⟩
  · rename_i id off
    split at h
    · rename_i j hj
      exact ⟨.ptr j off, fun ρ ρ' hr P M x ⟨g, h1, h2⟩ => ⟨g, hr _ _ hj _ h1, h2⟩, fun ρ ρ' hr P M x ⟨g, h1, h2⟩ => ⟨g, hr _ _ hj _ h1, h2⟩, h⟩
    · cases h
  · rename_i id
    split at h
    · rename_i j hj
      exact ⟨.orow j, fun ρ ρ' hr P M x ⟨h1, h2⟩ => ⟨hr _ _ hj _ h1, h2⟩, fun ρ ρ' hr P M x ⟨h1, h2⟩ => ⟨hr _ _ hj _ h1, h2⟩, h⟩
    · cases h
  · rename_i id i off sz
    split at h
    · rename_i j hj
      exact ⟨.optr j i off sz, fun ρ ρ' hr P M x ⟨g, n, c, h1, h2⟩ => ⟨g, n, c, hr _ _ hj _ h1, h2⟩, fun ρ ρ' hr P M x ⟨g, n, c, h1, h2⟩ => ⟨g, n, c, hr _ _ hj _ h1, h2⟩, h⟩
    · cases h
  · rename_i id lo hi sz
    split at h
    · rename_i j hj
      exact ⟨.osl j lo hi sz, fun ρ ρ' hr P M x ⟨A, n, c, ad, h1, h2⟩ => ⟨A, n, c, ad, hr _ _ hj _ h1, h2⟩, fun ρ ρ' hr P M x ⟨A, n, c, ad, h1, h2⟩ => ⟨A, n, c, ad, hr _ _ hj _ h1, h2⟩, h⟩
    · cases h
  · rename_i id
    split at h
    · rename_i j hj
      exact ⟨.omap j, fun ρ ρ' hr P M x ⟨h1, h2⟩ => ⟨hr _ _ hj _ h1, h2⟩, fun ρ ρ' hr P M x ⟨h1, h2⟩ => ⟨hr _ _ hj _ h1, h2⟩, h⟩
    · cases h
  · rename_i f a b
    split at h
    · rename_i a' b' ha hb
      exact ⟨.ofn f a' b', fun ρ ρ' hr P M x ⟨xs, ys, h1, h2, h3⟩ => ⟨xs, ys, h1, (nmCs_some ha ρ ρ' P M).1 hr xs h2, (nmCs_some hb ρ ρ' P M).1 hr ys h3⟩, fun ρ ρ' hr P M x ⟨xs, ys, h1, h2, h3⟩ => ⟨xs, ys, h1, (nmCs_some ha ρ ρ' P M).2 hr xs h2, (nmCs_some hb ρ ρ' P M).2 hr ys h3⟩, h⟩
    · cases h

section den
variable {m : Nm} {ρ' : Rho}
def Fw (m : Nm) (ρ ρ' : Rho) : Prop := ∀ i j, look i m = some j → (∀ v, ρ i = some v → ρ' j = some v)
def Bw (m : Nm) (ρ ρ' : Rho) : Prop := ∀ i j, look i m = some j → (∀ v, ρ' j = some v → ρ i = some v)

theorem nmLs_some {β : Type} {k : List L → Option β} {y : β} : ∀ {cs acc : List L}, nmLs m k cs acc = some y →
    ∃ cs', k (acc.reverse ++ cs') = some y ∧ ∀ (ρ ρ' : Rho) (P : Program) (M : Imm), (Fw m ρ ρ' → ∀ vs, All2 (DenL P ρ M) cs vs → All2 (DenL P ρ' M) cs' vs) ∧ (Bw m ρ ρ' → ∀ vs, All2 (DenL P ρ' M) cs' vs → All2 (DenL P ρ M) cs vs)
  | [], acc, h => ⟨[], by simpa [nmLs, revGo_eq] using h, fun ρ ρ' P M => ⟨fun _ vs h => by cases vs <;> simp_all [All2], fun _ vs h => by cases vs <;> simp_all [All2]⟩⟩
  | l :: r, acc, h => by
    simp only [nmLs] at h
    obtain ⟨l', h1, h2, h3⟩ := nmL_some h
    obtain ⟨cs', h4, h5⟩ := nmLs_some h3
    refine ⟨l' :: cs', by simpa using h4, fun ρ ρ' P M => ⟨fun hf vs hv => ?_, fun hf vs hv => ?_⟩⟩
    · cases vs with
      | nil => exact hv.elim
      | cons u us => exact ⟨h1 ρ ρ' hf P M u hv.1, (h5 ρ ρ' P M).1 hf us hv.2⟩
    · cases vs with
      | nil => exact hv.elim
      | cons u us => exact ⟨h2 ρ ρ' hf P M u hv.1, (h5 ρ ρ' P M).2 hf us hv.2⟩

theorem nmB_some {β : Type} {b : B} {k : B → Option β} {y : β} (h : nmB m b k = some y) :
    ∃ b', k b' = some y ∧ ∀ (ρ ρ' : Rho) (P : Program) (M : Imm), (Fw m ρ ρ' → ∀ x, DenB P ρ M b x → DenB P ρ' M b' x) ∧ (Bw m ρ ρ' → ∀ x, DenB P ρ' M b' x → DenB P ρ M b x) := by
  cases b with
  | l x =>
    obtain ⟨l', h1, h2, h3⟩ := nmL_some (m := m) (l := x) (k := fun y => k (.l y)) h
    exact ⟨.l l', h3, fun ρ ρ' P M => ⟨fun hf x hx => h1 ρ ρ' hf P M x hx, fun hf x hx => h2 ρ ρ' hf P M x hx⟩⟩
  | agg cs =>
    obtain ⟨cs', h3, h4⟩ := nmLs_some h
    refine ⟨.agg cs', by simpa using h3, fun ρ ρ' P M => ⟨fun hf x hx => ?_, fun hf x hx => ?_⟩⟩
    · obtain ⟨vs, h5, h6⟩ := hx
      exact ⟨vs, h5, (h4 ρ ρ' P M).1 hf vs h6⟩
    · obtain ⟨vs, h5, h6⟩ := hx
      exact ⟨vs, h5, (h4 ρ ρ' P M).2 hf vs h6⟩

theorem nmBs_some {β : Type} {k : List B → Option β} {y : β} : ∀ {cs acc : List B}, nmBs m k cs acc = some y →
    ∃ cs', k (acc.reverse ++ cs') = some y ∧ ∀ (ρ ρ' : Rho) (P : Program) (M : Imm), (Fw m ρ ρ' → ∀ vs, All2 (DenB P ρ M) cs vs → All2 (DenB P ρ' M) cs' vs) ∧ (Bw m ρ ρ' → ∀ vs, All2 (DenB P ρ' M) cs' vs → All2 (DenB P ρ M) cs vs)
  | [], acc, h => ⟨[], by simpa [nmBs, revGo_eq] using h, fun ρ ρ' P M => ⟨fun _ vs h => by cases vs <;> simp_all [All2], fun _ vs h => by cases vs <;> simp_all [All2]⟩⟩
  | l :: r, acc, h => by
    simp only [nmBs] at h
    obtain ⟨l', h3, h1⟩ := nmB_some h
    obtain ⟨cs', h4, h5⟩ := nmBs_some h3
    refine ⟨l' :: cs', by simpa using h4, fun ρ ρ' P M => ⟨fun hf vs hv => ?_, fun hf vs hv => ?_⟩⟩
    · cases vs with
      | nil => exact hv.elim
      | cons u us => exact ⟨(h1 ρ ρ' P M).1 hf u hv.1, (h5 ρ ρ' P M).1 hf us hv.2⟩
    · cases vs with
      | nil => exact hv.elim
      | cons u us => exact ⟨(h1 ρ ρ' P M).2 hf u hv.1, (h5 ρ ρ' P M).2 hf us hv.2⟩

theorem nmA_some {β : Type} {b : A} {k : A → Option β} {y : β} (h : nmA m b k = some y) :
    ∃ b', k b' = some y ∧ ∀ (ρ ρ' : Rho) (P : Program) (M : Imm), Fw m ρ ρ' → ∀ x, DenA P ρ M b x → DenA P ρ' M b' x := by
  cases b with
  | b x =>
    obtain ⟨l', h3, h1⟩ := nmB_some (m := m) (b := x) (k := fun y => k (.b y)) h
    exact ⟨.b l', h3, fun ρ ρ' P M hf x hx => (h1 ρ ρ' P M).1 hf x hx⟩
  | tup vs =>
    obtain ⟨cs', h3, h4⟩ := nmBs_some h
    refine ⟨.tup cs', by simpa using h3, fun ρ ρ' P M hf x hx => ?_⟩
    obtain ⟨vs, h5, h6⟩ := hx; exact ⟨vs, h5, (h4 ρ ρ' P M).1 hf vs h6⟩
  | undef => exact ⟨.undef, h, fun _ _ _ _ _ _ hx => hx⟩

theorem nmBlk_some {β : Type} {b : Blk} {k : Blk → Option β} {y : β} (h : nmBlk m b k = some y) :
    ∃ b', k b' = some y ∧ ∀ (ρ ρ' : Rho) (P : Program) (M : Imm) (W : World) (i j : Nat), look i m = some j → (Fw m ρ ρ' → BlkOK P ρ M W i b → BlkOK P ρ' M W j b') ∧ (Bw m ρ ρ' → BlkOK P ρ' M W j b' → BlkOK P ρ M W i b) := by
  cases b with
  | cells cs t =>
    obtain ⟨cs', h3, h4⟩ := nmLs_some h
    refine ⟨.cells cs' t, by simpa using h3, fun ρ ρ' P M W i j hij => ⟨fun hf hx => ?_, fun hf hx => ?_⟩⟩
    · obtain ⟨g, vs, h5, h6, h7⟩ := hx; exact ⟨g, vs, hf i j hij _ h5, h6, (h4 ρ ρ' P M).1 hf vs h7⟩
    · obtain ⟨g, vs, h5, h6, h7⟩ := hx; exact ⟨g, vs, hf i j hij _ h5, h6, (h4 ρ ρ' P M).2 hf vs h7⟩
  | row t es =>
    refine ⟨.row t es, h, fun ρ ρ' P M W i j hij => ⟨fun hf hx => ?_, fun hf hx => ?_⟩⟩
    · obtain ⟨v, xs, h5, h6⟩ := hx; exact ⟨v, xs, hf i j hij _ h5, h6⟩
    · obtain ⟨v, xs, h5, h6⟩ := hx; exact ⟨v, xs, hf i j hij _ h5, h6⟩
  | spread t es =>
    refine ⟨.spread t es, h, fun ρ ρ' P M W i j hij => ⟨fun hf hx => ?_, fun hf hx => ?_⟩⟩
    · rcases hx with ⟨h5, h6⟩ | ⟨g, n, cur, h5, h6⟩
      · exact .inl ⟨hf i j hij _ h5, h6⟩
      · exact .inr ⟨g, n, cur, hf i j hij _ h5, h6⟩
    · rcases hx with ⟨h5, h6⟩ | ⟨g, n, cur, h5, h6⟩
      · exact .inl ⟨hf i j hij _ h5, h6⟩
      · exact .inr ⟨g, n, cur, hf i j hij _ h5, h6⟩
  | rowp t es n cs =>
    obtain ⟨cs', h3, h4⟩ := nmLs_some h
    refine ⟨.rowp t es n cs', by simpa using h3, fun ρ ρ' P M W i j hij => ⟨fun hf hx => ?_, fun hf hx => ?_⟩⟩
    · obtain ⟨v, xs, h5, h6, h7, h8⟩ := hx
      exact ⟨v, xs, hf i j hij _ h5, h6, h7.to fun vs => (h4 ρ ρ' P M).1 hf vs, h8⟩
    · obtain ⟨v, xs, h5, h6, h7, h8⟩ := hx
      exact ⟨v, xs, hf i j hij _ h5, h6, h7.to fun vs => (h4 ρ ρ' P M).2 hf vs, h8⟩
  | map t x =>
    refine ⟨.map t x, h, fun ρ ρ' P M W i j hij => ⟨fun hf hx => ?_, fun hf hx => ?_⟩⟩
    · obtain ⟨g, es, c, h5, h6, h7⟩ := hx; exact ⟨g, es, c, hf i j hij _ h5, h6, h7⟩
    · obtain ⟨g, es, c, h5, h6, h7⟩ := hx; exact ⟨g, es, c, hf i j hij _ h5, h6, h7⟩

theorem nmO_some {β : Type} {k : List (Nat × Blk) → Option β} {y : β} : ∀ {cs acc : List (Nat × Blk)}, nmO m k cs acc = some y →
    ∃ cs', k (acc.reverse ++ cs') = some y ∧ All2 (fun (x : Nat × Blk) (x' : Nat × Blk) => look x.1 m = some x'.1 ∧ ∀ (ρ ρ' : Rho) (P : Program) (M : Imm) (W : World), (Fw m ρ ρ' → BlkOK P ρ M W x.1 x.2 → BlkOK P ρ' M W x'.1 x'.2) ∧ (Bw m ρ ρ' → BlkOK P ρ' M W x'.1 x'.2 → BlkOK P ρ M W x.1 x.2)) cs cs'
  | [], acc, h => ⟨[], by simpa [nmO, revGo_eq] using h, trivial⟩
  | (i, b) :: r, acc, h => by
    simp only [nmO] at h
    split at h
    · rename_i j hj
      obtain ⟨b', h1, h2⟩ := nmBlk_some h
      obtain ⟨cs', h4, h5⟩ := nmO_some h1
      exact ⟨(j, b') :: cs', by simpa using h4, ⟨hj, fun ρ ρ' P M W => h2 ρ ρ' P M W i j hj⟩, h5⟩
    · cases h
end den

theorem All2.mem {α β : Type} {R : α → β → Prop} : ∀ {l : List α} {m : List β} {x : α}, All2 R l m → x ∈ l → ∃ y, y ∈ m ∧ R x y
  | [], _, _, _, h => by simp at h
  | a :: as, b :: bs, x, h, hm => by
    rcases List.mem_cons.1 hm with rfl | hm
    · exact ⟨b, List.mem_cons_self, h.1⟩
    · obtain ⟨y, h1, h2⟩ := All2.mem h.2 hm; exact ⟨y, List.mem_cons_of_mem _ h1, h2⟩
  | _ :: _, [], _, h, _ => h.elim
theorem All2.mem' {α β : Type} {R : α → β → Prop} : ∀ {l : List α} {m : List β} {y : β}, All2 R l m → y ∈ m → ∃ x, x ∈ l ∧ R x y
  | _, [], _, _, h => by simp at h
  | a :: as, b :: bs, x, h, hm => by
    rcases List.mem_cons.1 hm with rfl | hm
    · exact ⟨a, List.mem_cons_self, h.1⟩
    · obtain ⟨y, h1, h2⟩ := All2.mem' h.2 hm; exact ⟨y, List.mem_cons_of_mem _ h1, h2⟩
  | [], _ :: _, _, h, _ => h.elim

/-- each of these is there, just so. -/
def allIn (own : List (Nat × Blk)) : List (Nat × Blk) → Prop
  | [] => True
  | (j, b) :: r => look j own = some b ∧ allIn own r
theorem allIn_mem {own : List (Nat × Blk)} {x : Nat × Blk} : ∀ {l : List (Nat × Blk)}, allIn own l → x ∈ l → look x.1 own = some x.2
  | [], _, h => by simp at h
  | (j, b) :: r, h, hm => by
    rcases List.mem_cons.1 hm with rfl | hm
    · exact h.1
    · exact allIn_mem h.2 hm

def keysN {α : Type} : List (Nat × α) → List Nat
  | [] => []
  | (i, _) :: r => i :: keysN r
theorem keysN_look {α : Type} {i : Nat} {y : α} : ∀ {l : List (Nat × α)}, look i l = some y → i ∈ keysN l
  | [], h => by simp [look] at h
  | (j, u) :: r, h => by
    rw [look_cons] at h
    by_cases e : j = i
    · subst e; simp [keysN]
    · simp [e] at h; exact List.mem_cons_of_mem _ (keysN_look h)
theorem keysN_mem {α : Type} {i : Nat} : ∀ {l : List (Nat × α)}, i ∈ keysN l ↔ ∃ y, (i, y) ∈ l
  | [] => by simp [keysN]
  | (j, u) :: r => by
    simp only [keysN, List.mem_cons, keysN_mem (l := r)]
    constructor
    · rintro (rfl | ⟨y, h⟩)
      · exact ⟨u, .inl rfl⟩
      · exact ⟨y, .inr h⟩
    · rintro ⟨y, h | h⟩
      · cases h; exact .inl rfl
      · exact .inr ⟨y, h⟩
theorem distinct_keys {α : Type} {id : Nat} {b b' : α} : ∀ {l : List (Nat × α)}, distinct (keysN l) = true → (id, b) ∈ l → (id, b') ∈ l → b = b'
  | [], _, h, _ => by simp at h
  | (q1, q2) :: l, hdd, h, h' => by
    simp only [keysN, distinct, Bool.and_eq_true] at hdd
    rcases List.mem_cons.1 h with e | k <;> rcases List.mem_cons.1 h' with e' | k'
    · cases e; cases e'; rfl
    · cases e; exact absurd (keysN_mem.2 ⟨b', k'⟩) (notIn_not hdd.1)
    · cases e'; exact absurd (keysN_mem.2 ⟨b, k⟩) (notIn_not hdd.1)
    · exact distinct_keys hdd.2 k k'
def valsN : Nm → List Nat
  | [] => []
  | (_, j) :: r => j :: valsN r
def lookR (j : Nat) : Nm → Option Nat
  | [] => none
  | (i, k) :: r => bif Nat.beq k j then some i else lookR j r
theorem lookR_none {j : Nat} : ∀ {m : Nm}, j ∉ valsN m → lookR j m = none
  | [], _ => rfl
  | (i, k) :: r, h => by
    simp only [valsN, List.mem_cons, not_or] at h
    simp only [lookR]
    have : Nat.beq k j = false := by
      cases hb : Nat.beq k j with
      | false => rfl
      | true => exact absurd (Nat.eq_of_beq_eq_true hb).symm h.1
    rw [this]; exact lookR_none h.2
theorem lookR_mem {j i : Nat} : ∀ {m : Nm}, distinct (valsN m) = true → (i, j) ∈ m → lookR j m = some i
  | [], _, h => by simp at h
  | (i', k) :: r, hd, h => by
    simp only [valsN, distinct, Bool.and_eq_true] at hd
    rcases List.mem_cons.1 h with e | h
    · cases e; simp [lookR, Nat.beq_refl]
    · have hj : j ∈ valsN r := by
        clear hd
        induction r with
        | nil => simp at h
        | cons q r ih =>
          obtain ⟨q1, q2⟩ := q
          rcases List.mem_cons.1 h with e | h
          · cases e; simp [valsN]
          · exact List.mem_cons_of_mem _ (ih (List.mem_cons_of_mem _ h) h)
      have hne : k ≠ j := fun e => by subst e; exact notIn_not hd.1 hj
      have : Nat.beq k j = false := by
        cases hb : Nat.beq k j with
        | false => rfl
        | true => exact absurd (Nat.eq_of_beq_eq_true hb) hne
      simp only [lookR, this, cond_false]
      exact lookR_mem hd.2 h
theorem valsN_mem {i j : Nat} : ∀ {m : Nm}, (i, j) ∈ m → j ∈ valsN m
  | [], h => by simp at h
  | (i', k) :: r, h => by
    rcases List.mem_cons.1 h with e | h
    · cases e; simp [valsN]
    · exact List.mem_cons_of_mem _ (valsN_mem h)

def allLt (n : Nat) : List Nat → Bool
  | [] => true
  | x :: r => Nat.blt x n && allLt n r
def allGe (n : Nat) : List Nat → Bool
  | [] => true
  | x :: r => Nat.ble n x && allGe n r
theorem allLt_mem {n x : Nat} : ∀ {l : List Nat}, allLt n l = true → x ∈ l → x < n
  | [], _, h => by simp at h
  | y :: r, h, hm => by
    simp only [allLt, Bool.and_eq_true] at h
    rcases List.mem_cons.1 hm with rfl | hm
    · exact blt_lt h.1
    · exact allLt_mem h.2 hm
theorem allGe_mem {n x : Nat} : ∀ {l : List Nat}, allGe n l = true → x ∈ l → n ≤ x
  | [], _, h => by simp at h
  | y :: r, h, hm => by
    simp only [allGe, Bool.and_eq_true] at h
    rcases List.mem_cons.1 hm with rfl | hm
    · exact Nat.le_of_ble_eq_true h.1
    · exact allGe_mem h.2 hm
theorem look_append {α : Type} {k : Nat} {y : α} : ∀ {l m : List (Nat × α)}, look k (l ++ m) = some y → look k l = some y ∨ look k m = some y
  | [], m, h => .inr (by simpa using h)
  | (j, u) :: r, m, h => by
    simp only [List.cons_append, look_cons] at h ⊢
    by_cases e : j = k
    · simp [e] at h ⊢; exact .inl h
    · simp [e] at h ⊢; exact look_append h

/-- A call's trace: slots, blocks. -/
def recCall (r : St) (d : Option Nat) (res : A) (del : List Nat) (add : List (Nat × Blk)) (new : List Nat) : Rec :=
  ⟨r, match d with | some d => [(d, [], res)] | none => [], [], del, add, new⟩

theorem call_core {O O' o1 add : List (Nat × Blk)} {nx nx' : Nat} {args args' : List B} {r0 res : A} (m mn : Nm)
    (ha : nmBs m some args [] = some args') (hO : nmO m some O [] = some o1)
    (hm : (allLt nx (keysN m) && allGe nx (keysN mn) && allLt nx' (keysN mn) && distinct (valsN mn) && distinct (keysN mn) && distinct (valsN m)) = true)
    (hfull : ∀ i, i < nx → ∃ b, look i O = some b) (hkO : distinct (keysN O) = true)
    (hres : nmA (m ++ mn) r0 some = some res) (hadd : nmO (m ++ mn) some O' [] = some add) (hka : distinct (keysN add) = true)
    (g : Gam P X ρ M s a W) (hino : ∀ x, x ∈ o1 → x ∈ s.own) (hfr : ∀ n ∈ valsN mn, ρ n = none ∧ n < s.nx) {vs : List Value} (hargs : All2 (DenB P ρ M) args' vs) :
    ∃ ρc, Mem P ⟨W, handed ρc O, M, ρc, nx⟩ ρc M O nx W ∧ All2 (DenB P ρc M) args vs ∧ ∀ ρ' M' v W', DenA P ρ' M' r0 v → Mem P ⟨W, handed ρc O, M, ρc, nx⟩ ρ' M' O' nx' W' →
      ∃ ρ'', ρ.le ρ'' ∧ M.le M' ∧ (∀ n, ρ n = none → n ∉ valsN mn → ρ'' n = none) ∧ Gam P X ρ'' M' { s with own := add.reverse ++ remP (valsN m) s.own } a W' ∧ DenA P ρ'' M' res v := by
  simp only [Bool.and_eq_true] at hm
  obtain ⟨⟨⟨⟨⟨hm1, hm2⟩, hm3⟩, hm4⟩, hm5⟩, hm6⟩ := hm
  obtain ⟨args1, e1, hA⟩ := nmBs_some ha
  simp at e1; subst e1
  obtain ⟨o2, e2, hOO⟩ := nmO_some hO
  simp at e2; subst e2
  obtain ⟨res1, e3, hR⟩ := nmA_some hres
  simp at e3
  rw [e3] at hR
  clear e3 res1
  obtain ⟨add1, e4, hAdd⟩ := nmO_some hadd
  simp at e4
  rw [e4] at hAdd
  clear e4 add1
  -- the callee's names
  have hown : ∀ i b, (i, b) ∈ O → ∃ j b', look i m = some j ∧ (j, b') ∈ s.own ∧ ∀ (ρ1 ρ2 : Rho), Bw m ρ1 ρ2 → BlkOK P ρ2 M W j b' → BlkOK P ρ1 M W i b := fun i b hib => by
    obtain ⟨⟨j, b'⟩, h1, h2, h3⟩ := hOO.mem hib
    exact ⟨j, b', h2, hino _ h1, fun ρ1 ρ2 hb => (h3 ρ1 ρ2 P M W).2 hb⟩
  generalize hρc : (fun i => match look i m with | some j => ρ j | none => none : Rho) = ρc
  have hρ1 : ∀ i j, look i m = some j → ρc i = ρ j := fun i j h => by rw [← hρc]; simp [h]
  have hρ2 : ∀ i, look i m = none → ρc i = none := fun i h => by rw [← hρc]; simp [h]
  have hlt : ∀ i j, look i m = some j → i < nx := fun i j h => allLt_mem hm1 (keysN_look h)
  have hinj : ∀ i i' j, look i m = some j → look i' m = some j → i = i' := fun i i' j h h' => by
    have h1 := lookR_mem hm6 (look_mem h)
    have h2 := lookR_mem hm6 (look_mem h')
    rw [h1] at h2; simpa using h2
  have hbw : Bw m ρc ρ := fun i j h v hv => by rw [hρ1 i j h]; exact hv
  have hmem0 : Mem P ⟨W, handed ρc O, M, ρc, nx⟩ ρc M O nx W := by
    refine ⟨rfl, rfl, rfl, Nat.le_refl _, fun _ _ _ => rfl, g.imm, Imm.le.refl _, fun _ _ h => .inl h, Rho.le.refl _, Nat.le_refl _, fun id hid => ?_, fun id hid => ?_, fun id b hib => ?_, fun id b v k hib hv hk => ?_, fun id b id' b' v v' k hib hib' hv hv' hk hk' => ?_⟩
    · cases hl : look id m with
      | none => exact hρ2 id hl
      | some j => have := hlt id j hl; simp at hid; omega
    · cases hl : look id m with
      | none => exact hρ2 id hl
      | some j => have := hlt id j hl; omega
    · obtain ⟨j, b', h1, h2, h3⟩ := hown id b hib
      exact h3 ρc ρ hbw (g.own _ _ h2)
    · obtain ⟨j, b', h1, h2, h3⟩ := hown id b hib
      rw [hρ1 id j h1] at hv
      exact ⟨(g.mine _ _ _ _ h2 hv hk).1, .inl ⟨id, b, v, hib, by rw [hρ1 id j h1]; exact hv, hk⟩⟩
    · obtain ⟨j, b1, h1, h2, h3⟩ := hown id b hib
      obtain ⟨j', b1', h1', h2', h3'⟩ := hown id' b' hib'
      rw [hρ1 id j h1] at hv
      rw [hρ1 id' j' h1'] at hv'
      have := (g.dist _ _ _ _ _ _ _ h2 h2' hv hv' hk hk').1
      subst this
      have hid := hinj id id' j h1 h1'
      subst hid
      refine ⟨rfl, ?_⟩
      exact distinct_keys hkO hib hib'
  have hargs' := (hA ρc ρ P M).2 hbw vs hargs
  refine ⟨ρc, hmem0, hargs', fun ρ' M' v W' hdv hmm => ?_⟩
  have hhand : ∀ b, handed ρc O b → ∃ id b' v, (id, b') ∈ s.own ∧ id ∈ valsN m ∧ ρ id = some v ∧ gOf v = some b := fun b ⟨i, bb, v, h1, h2, h3⟩ => by
    obtain ⟨j, b', h4, h5, _⟩ := hown i bb h1
    exact ⟨j, b', v, h5, valsN_mem (look_mem h4), by rw [← hρ1 i j h4]; exact h2, h3⟩
  -- the caller's names behind the call
  generalize hρ'' : (fun j => match lookR j mn with | some i => ρ' i | none => ρ j : Rho) = ρ''
  have hr1 : ∀ j, j ∉ valsN mn → ρ'' j = ρ j := fun j h => by rw [← hρ'']; simp [lookR_none h]
  have hr2 : ∀ i j, (i, j) ∈ mn → ρ'' j = ρ' i := fun i j h => by rw [← hρ'']; simp [lookR_mem hm4 h]
  have hρle : ρ.le ρ'' := fun j v hj => by
    rw [hr1 j fun h => by rw [(hfr j h).1] at hj; cases hj]
    exact hj
  have hold : ∀ j b, (j, b) ∈ s.own → ρ j ≠ none := fun j b h => by
    exact (g.own j b h).rho
  have hsame : ∀ i j, look i m = some j → ρ' i = ρ j := fun i j h => by
    obtain ⟨b, hb⟩ := hfull i (hlt i j h)
    obtain ⟨j', b', h1, h2, _⟩ := hown i b (look_mem hb)
    rw [h] at h1; cases h1
    cases hv : ρ j with
    | none => exact absurd hv (hold j b' h2)
    | some v => exact hmm.rle i v (by show ρc i = some v; rw [hρ1 i j h]; exact hv)
  have hboth : ∀ i j, look i (m ++ mn) = some j → ρ'' j = ρ' i := fun i j h => by
    rcases look_append h with h | h
    · obtain ⟨b, hb⟩ := hfull i (hlt i j h)
      obtain ⟨j', b', h1, h2, _⟩ := hown i b (look_mem hb)
      rw [h] at h1; cases h1
      rw [hr1 j fun hj => hold j b' h2 (hfr j hj).1, hsame i j h]
    · exact hr2 i j (look_mem h)
  have hfw : Fw (m ++ mn) ρ' ρ'' := fun i j h v hv => by rw [hboth i j h]; exact hv
  have hnot : ∀ id b, (id, b) ∈ remP (valsN m) s.own → ∀ v k, ρ id = some v → gOf v = some k → ¬ handed ρc O k := fun id b hib v k hv hk hh => by
    obtain ⟨h1, h2⟩ := remP_mem.1 hib
    obtain ⟨j, b', v', h3, h4, h5, h6⟩ := hhand k hh
    have := (g.dist id b j b' v v' k h1 h3 hv h5 hk h6).1
    subst this; exact h2 h4
  have hnn : ∀ id b, (id, b) ∈ remP (valsN m) s.own → ρ'' id = ρ id := fun id b hib => hr1 id fun h => hold id b (remP_mem.1 hib).1 (hfr id h).1
  have hadd2 : ∀ j b, (j, b) ∈ add → ∃ i b0, (i, b0) ∈ O' ∧ look i (m ++ mn) = some j ∧ (BlkOK P ρ' M' W' i b0 → BlkOK P ρ'' M' W' j b) := fun j b h => by
    obtain ⟨⟨i, b0⟩, h1, h2, h3⟩ := hAdd.mem' h
    exact ⟨i, b0, h1, h2, (h3 ρ' ρ'' P M' W').1 hfw⟩
  have hWsz : W.heap.size ≤ W'.heap.size := hmm.size
  have g1 : Gam P X ρ'' M' { s with own := add.reverse ++ remP (valsN m) s.own } a W' := by
    refine ⟨⟨hmm.os.trans g.os, hmm.tape.trans g.tape, hmm.output.trans g.output, Nat.le_trans g.size hWsz, fun b hb hK => ?_, hmm.imm, g.mono.trans hmm.mono, fun b ob hb => ?_, g.rle.trans hρle, g.nle, g.rfr, fun id hid => ?_, fun id b hib => ?_, fun id b v k hib hv hk => ?_, ?_⟩, fun k q u hk => ?_, g.wfr, g.gv, g.wfg, g.asm, g.defers, g.sz⟩
    · rw [hmm.old b (Nat.lt_of_lt_of_le hb g.size) fun hh => ?_]
      · exact g.old b hb hK
      · obtain ⟨j, b', v', h3, h4, h5, h6⟩ := hhand b hh
        rcases (g.mine j b' v' b h3 h5 h6).2 with h | h
        · exact hK h
        · omega
    · rcases hmm.newM b ob hb with h | h | h
      · exact g.newM b ob h
      · obtain ⟨j, b', v', h3, h4, h5, h6⟩ := hhand b h
        exact .inr (g.mine j b' v' b h3 h5 h6).2
      · exact .inr (.inr (Nat.le_trans g.size h))
    · rw [hr1 id fun h => by have := (hfr id h).2; simp at hid; omega]
      exact g.fresh id hid
    · rcases List.mem_append.1 hib with h | h
      · obtain ⟨i, b0, h1, h2, h3⟩ := hadd2 id b (List.mem_reverse.1 h)
        exact h3 (hmm.own i b0 h1)
      · refine (g.own id b (remP_mem.1 h).1).keep hρle hmm.mono fun v k hv hk => ?_
        exact hmm.old k ((g.own id b (remP_mem.1 h).1).lt hv hk) (hnot id b h v k hv hk)
    · rcases List.mem_append.1 hib with h | h
      · obtain ⟨i, b0, h1, h2, h3⟩ := hadd2 id b (List.mem_reverse.1 h)
        rw [hboth i id h2] at hv
        obtain ⟨h4, h5⟩ := hmm.mine i b0 v k h1 hv hk
        refine ⟨h4, ?_⟩
        rcases h5 with h5 | h5
        · obtain ⟨j, b', v', q3, q4, q5, q6⟩ := hhand k h5
          exact (g.mine j b' v' k q3 q5 q6).2
        · exact .inr (Nat.le_trans g.size h5)
      · rw [hnn id b h] at hv
        have h1 := (remP_mem.1 h).1
        have h2 := g.mine id b v k h1 hv hk
        refine ⟨?_, h2.2⟩
        cases hM : M' k with
        | none => rfl
        | some ob =>
          rcases hmm.newM k ob hM with h' | h' | h'
          · exact absurd (h2.1.symm.trans h') (by simp)
          · exact absurd h' (hnot id b h v k hv hk)
          · exact absurd ((g.own id b h1).lt hv hk) (Nat.not_lt.2 h')
    · have hx : ∀ id b, (id, b) ∈ add → ∀ v k, ρ'' id = some v → gOf v = some k → handed ρc O k ∨ W.heap.size ≤ k := fun id b h v k hv hk => by
        obtain ⟨i, b0, h1, h2, h3⟩ := hadd2 id b h
        rw [hboth i id h2] at hv
        exact (hmm.mine i b0 v k h1 hv hk).2
      have hy : ∀ id b, (id, b) ∈ remP (valsN m) s.own → ∀ v k, ρ'' id = some v → gOf v = some k → ¬ handed ρc O k ∧ k < W.heap.size := fun id b h v k hv hk => by
        rw [hnn id b h] at hv
        exact ⟨hnot id b h v k hv hk, (g.own id b (remP_mem.1 h).1).lt hv hk⟩
      intro id b id' b' v v' k hib hib' hv hv' hk hk'
      rcases List.mem_append.1 hib with h | h <;> rcases List.mem_append.1 hib' with h' | h'
      · have hh := List.mem_reverse.1 h
        have hh' := List.mem_reverse.1 h'
        obtain ⟨⟨i, b0⟩, h1, h2, h3⟩ := hAdd.mem' hh
        obtain ⟨⟨i', b0'⟩, h1', h2', h3'⟩ := hAdd.mem' hh'
        rw [hboth i id h2] at hv
        rw [hboth i' id' h2'] at hv'
        have := hmm.dist i b0 i' b0' v v' k h1 h1' hv hv' hk hk'
        obtain ⟨rfl, rfl⟩ := this
        rw [h2] at h2'
        cases h2'
        refine ⟨rfl, ?_⟩
        exact distinct_keys hka hh hh'
      · exfalso
        obtain ⟨q1, q2⟩ := hy id' b' h' v' k hv' hk'
        rcases hx id b (List.mem_reverse.1 h) v k hv hk with q | q
        · exact q1 q
        · omega
      · exfalso
        obtain ⟨q1, q2⟩ := hy id b h v k hv hk
        rcases hx id' b' (List.mem_reverse.1 h') v' k hv' hk' with q | q
        · exact q1 q
        · omega
      · rw [hnn id b h] at hv
        rw [hnn id' b' h'] at hv'
        exact g.dist id b id' b' v v' k (remP_mem.1 h).1 (remP_mem.1 h').1 hv hv' hk hk'
    · obtain ⟨x, h1, h2, h3⟩ := g.regs k q u hk
      exact ⟨x, h1, fun hh => DenA.mono hρle hmm.mono (h2 hh), h3⟩
  have hv'' : DenA P ρ'' M' res v := hR ρ' ρ'' P M' hfw v hdv
  have hnone : ∀ n, ρ n = none → n ∉ valsN mn → ρ'' n = none := fun n h1 h2 => by rw [hr1 n h2]; exact h1
  exact ⟨ρ'', hρle, hmm.mono, hnone, g1, hv''⟩

/-- A CALL BY CONTRACT, with blocks handed over: m: the callee's names and the caller's; mn: those of blocks that the call makes. -/
theorem tl_call {f : FuncId} {O O' o1 add : List (Nat × Blk)} {nx nx' : Nat} {args args' : List B} {r0 res : A} (m mn : Nm)
    (con : Con P f O nx args fun r' o' n' => r' = r0 ∧ o' = O' ∧ n' = nx')
    (hc : callOf r o = some (f, args')) (hd : (match o.dst with | some d => Nat.blt d r.sz | none => true) = true) (ha : nmBs m some args [] = some args') (hO : nmO m some O [] = some o1) (hin : allIn r.own o1)
    (hm : (allLt nx (keysN m) && allGe nx (keysN mn) && allLt nx' (keysN mn) && distinct (valsN mn) && distinct (keysN mn) && distinct (valsN m)) = true)
    (hfull : ∀ i, i < nx → ∃ b, look i O = some b) (hkO : distinct (keysN O) = true)
    (hres : nmA (m ++ mn) r0 some = some res) (hadd : nmO (m ++ mn) some O' [] = some add) (hka : distinct (keysN add) = true) : Tl P o (recCall r o.dst res (valsN m) add (valsN mn)) := by
  intro X ρ M s a W K Q g hs hf hps hK
  have gr := g.sub hs
  obtain ⟨vs, hrun, hargs⟩ := callOf_run gr hc con.1
  obtain ⟨ρc, hmem0, hargs', hpost⟩ := call_core m mn ha hO hm hfull hkO hres hadd hka g (fun x hx => hs.own _ _ (look_mem (allIn_mem hin hx))) hf hargs
  unfold Oper.wp
  rw [hrun]
  refine (con.2 W ρc M vs hmem0 hargs').mono ?_
  rintro e W' ⟨ρ', M', r', v, o', n', rfl, hdv, ⟨rfl, rfl, rfl⟩, hmm⟩
  obtain ⟨ρ'', hρle, hMle, hnone, g1, hv''⟩ := hpost ρ' M' v W' hdv hmm
  cases hdst : o.dst with
  | none =>
    rw [hdst] at hK
    have h3 := hK ρ'' M' a W' (by simpa [recCall] using hnone) (by rw [apply_eq]; simpa [recCall] using g1)
    exact h3
  | some d =>
    rw [hdst] at hd hps hK
    have hz' : d < s.sz := by
      have h0 : d < r.sz := blt_lt hd
      have h1 : r.sz = s.sz := hs.sz
      exact Nat.lt_of_lt_of_eq h0 h1
    have g2 := g1.putR (p := []) (v := res) (d := d) (hps (d, [], res) (by simp [recCall])) hz' (x := v) ⟨fun _ => hv'', fun hh => absurd (holds_nil _) hh⟩ (by simp)
    have h3 := hK ρ'' M' (a.put (some d) v) W' (by simpa [recCall] using hnone) (by rw [apply_eq]; exact g2)
    exact h3

end Go.Cel
