/- CelJ: loops; one state for another, with other names for its blocks; blocks that are turned no more. -/
import Derived.Test.YtflmcnpfeikoeaaGreatDoorK02
import Derived.Orders
set_option linter.unusedVariables false
set_option linter.unusedSimpArgs false
namespace Go.Cel
variable {P : Program} {T : Nat → Ty} {X : CtxD} {ρ : Rho} {M : Imm} {s s' : St} {a : Act} {W : World} {p : Path} {o : Oper} {v : A}

/-- A LOOP: S i is the state at a round's head, m i falls. -/
theorem V_loop {n0 : Nat} (hX : X.n0 = n0) {ι : Type} (S : ι → St) (I : ι → Prop) (m : ι → Nat) (i0 : ι) {body : Code} {k : List It} {Q : Post} (h0 : Ghost P n0 s (S i0)) (hI : I i0)
    (hb : ∀ i, I i → V P X (.c body :: .stop (fun s' => ∃ j, I j ∧ m j < m i ∧ Ghost P n0 s' (S j)) :: k) (S i) Q) : V P X (.c (.loop body) :: k) s Q := by
  intro ρ M a W g
  obtain ⟨ρ1, M1, g1⟩ := h0 X ρ M a W hX g
  refine wp_loop_ghost (fun n a w => ∃ i ρ M, m i = n ∧ I i ∧ Gam P X ρ M (S i) a w) (m i0) ⟨i0, ρ1, M1, rfl, hI, g1⟩ ?_
  rintro n a w ⟨i, ρ2, M2, rfl, hIi, g2⟩
  refine wp_mono (hb i hIi ρ2 M2 a w g2) fun e a' w' q => ?_
  cases e with
  | normal =>
    obtain ⟨ρ3, M3, s3, g3, j, hj, hlt, hgh⟩ := q
    obtain ⟨ρ4, M4, g4⟩ := hgh X ρ3 M3 a' w' hX g3
    exact ⟨m j, hlt, j, ρ4, M4, rfl, hj, g4⟩
  | exit id => exact q
  | goto l => exact q
  | ret => exact q
  | panic ch => exact q
  | outgrown => exact q

/-! One state for another. -/
def RegsIn (mp : Nat → Nat) (R : List (Nat × Path × A)) : List (Nat × Path × A) → Prop
  | [] => True
  | (k, p, v) :: r => (p = [] ∧ look k R = some ([], renA mp v)) ∧ RegsIn mp R r
def OwnIn (mp : Nat → Nat) (O : List (Nat × Blk)) : List (Nat × Blk) → Prop
  | [] => True
  | (id, b) :: r => look (mp id) O = some (renBlk mp b) ∧ OwnIn mp O r

def mpOf (d : Nat) (l : List (Nat × Nat)) (i : Nat) : Nat := (look i l).getD d

def notIn (x : Nat) : List Nat → Bool
  | [] => true
  | y :: r => !(Nat.beq x y) && notIn x r
def distinct : List Nat → Bool
  | [] => true
  | x :: r => notIn x r && distinct r
def keysLt (n : Nat) : List (Nat × Nat) → Bool
  | [] => true
  | (i, _) :: r => Nat.blt i n && keysLt n r
def idOn (d : Nat) (l : List (Nat × Nat)) : Nat → Bool
  | 0 => true
  | n + 1 => Nat.beq (mpOf d l n) n && idOn d l n

theorem RegsIn.get {mp : Nat → Nat} {R : List (Nat × Path × A)} {k : Nat} {p : Path} {v : A} : ∀ {l : List (Nat × Path × A)}, RegsIn mp R l → (k, p, v) ∈ l → p = [] ∧ look k R = some ([], renA mp v)
  | [], _, h => by simp at h
  | (j, q, u) :: r, h, hm => by
    rcases List.mem_cons.1 hm with e | hm
    · cases e; exact h.1
    · exact RegsIn.get h.2 hm
theorem OwnIn.get {mp : Nat → Nat} {O : List (Nat × Blk)} {id : Nat} {b : Blk} : ∀ {l : List (Nat × Blk)}, OwnIn mp O l → (id, b) ∈ l → look (mp id) O = some (renBlk mp b)
  | [], _, h => by simp at h
  | (j, c) :: r, h, hm => by
    rcases List.mem_cons.1 hm with e | hm
    · cases e; exact h.1
    · exact OwnIn.get h.2 hm
theorem notIn_not {x : Nat} : ∀ {l : List Nat}, notIn x l = true → x ∉ l
  | [], _ => by simp
  | y :: r, h => by
    simp only [notIn, Bool.and_eq_true] at h
    intro hm
    rcases List.mem_cons.1 hm with rfl | hm
    · simp [Nat.beq_refl] at h
    · exact notIn_not h.2 hm
theorem distinct_inj {mp : Nat → Nat} : ∀ {l : List (Nat × Blk)}, distinct (l.map fun q => mp q.1) = true → ∀ {p q : Nat × Blk}, p ∈ l → q ∈ l → mp p.1 = mp q.1 → p = q
  | [], _, _, _, h, _, _ => by simp at h
  | x :: r, h, p, q, hp, hq, e => by
    simp only [List.map_cons, distinct, Bool.and_eq_true] at h
    have hn := notIn_not h.1
    rcases List.mem_cons.1 hp with e1 | hp' <;> rcases List.mem_cons.1 hq with e2 | hq'
    · rw [e1, e2]
    · subst e1; exact absurd (List.mem_map.2 ⟨q, hq', e.symm⟩) hn
    · subst e2; exact absurd (List.mem_map.2 ⟨p, hp', e⟩) hn
    · exact distinct_inj h.2 hp' hq' e
theorem keysLt_look {n i j : Nat} : ∀ {l : List (Nat × Nat)}, keysLt n l = true → look i l = some j → i < n
  | [], _, h => by simp [look] at h
  | (k, u) :: r, h, hl => by
    simp only [keysLt, Bool.and_eq_true] at h
    rw [look_cons] at hl
    by_cases e : k = i
    · subst e; exact blt_lt h.1
    · simp [e] at hl; exact keysLt_look h.2 hl
theorem idOn_eq {d : Nat} {l : List (Nat × Nat)} : ∀ {n i : Nat}, idOn d l n = true → i < n → mpOf d l i = i
  | 0, _, _, h => by omega
  | n + 1, i, h, hi => by
    simp only [idOn, Bool.and_eq_true] at h
    by_cases e : i = n
    · subst e; exact Nat.eq_of_beq_eq_true h.1
    · exact idOn_eq h.2 (by omega)

section ren
variable {mp : Nat → Nat} {ρ' : Rho} (hr : ∀ i, ρ' i = ρ (mp i))
include hr
theorem DenC_ren {c : C} {x : Value} (h : DenC P ρ M (match c with | .d x => .d x | .ptr id off => .ptr (mp id) off) x) : DenC P ρ' M c x := by
  cases c with
  | d y => exact h
  | ptr id off => obtain ⟨g, h1, h2⟩ := h; exact ⟨g, (hr id).trans h1, h2⟩
theorem All2C_ren : ∀ {cs : List C} {vs : List Value}, All2 (DenC P ρ M) (cs.map fun c => match c with | .d x => .d x | .ptr id off => .ptr (mp id) off) vs → All2 (DenC P ρ' M) cs vs
  | [], [], _ => trivial
  | c :: cs, v :: vs, h => ⟨DenC_ren hr h.1, All2C_ren h.2⟩
  | [], _ :: _, h => h.elim
  | _ :: _, [], h => h.elim
theorem DenL_ren {l : L} {x : Value} (h : DenL P ρ M (renL mp l) x) : DenL P ρ' M l x := by
  cases l with
  | d y => exact h
  | ptr id off => obtain ⟨g, h1, h2⟩ := h; exact ⟨g, (hr id).trans h1, h2⟩
  | orow id => exact ⟨(hr id).trans h.1, h.2⟩
  | optr id i off sz => obtain ⟨g, n, c, h1, h2⟩ := h; exact ⟨g, n, c, (hr id).trans h1, h2⟩
  | osl id lo hi sz => obtain ⟨A, n, c, ad, h1, h2⟩ := h; exact ⟨A, n, c, ad, (hr id).trans h1, h2⟩
  | omap id => exact ⟨(hr id).trans h.1, h.2⟩
  | ofn f b c => obtain ⟨xs, ys, h1, h2, h3⟩ := h; exact ⟨xs, ys, h1, All2C_ren hr h2, All2C_ren hr h3⟩
theorem All2L_ren : ∀ {cs : List L} {vs : List Value}, All2 (DenL P ρ M) (cs.map (renL mp)) vs → All2 (DenL P ρ' M) cs vs
  | [], [], _ => trivial
  | c :: cs, v :: vs, h => ⟨DenL_ren hr h.1, All2L_ren h.2⟩
  | [], _ :: _, h => h.elim
  | _ :: _, [], h => h.elim
theorem DenB_ren {b : B} {x : Value} (h : DenB P ρ M (renB mp b) x) : DenB P ρ' M b x := by
  cases b with
  | l y => exact DenL_ren hr h
  | agg cs => obtain ⟨vs, h1, h2⟩ := h; exact ⟨vs, h1, All2L_ren hr h2⟩
theorem All2B_ren : ∀ {cs : List B} {vs : List Value}, All2 (DenB P ρ M) (cs.map (renB mp)) vs → All2 (DenB P ρ' M) cs vs
  | [], [], _ => trivial
  | c :: cs, v :: vs, h => ⟨DenB_ren hr h.1, All2B_ren h.2⟩
  | [], _ :: _, h => h.elim
  | _ :: _, [], h => h.elim
theorem DenA_ren {b : A} {x : Value} (h : DenA P ρ M (renA mp b) x) : DenA P ρ' M b x := by
  cases b with
  | b y => exact DenB_ren hr h
  | tup cs => obtain ⟨vs, h1, h2⟩ := h; exact ⟨vs, h1, All2B_ren hr h2⟩
  | undef => exact h
theorem BlkOK_ren {id : Nat} {b : Blk} (h : BlkOK P ρ M W (mp id) (renBlk mp b)) : BlkOK P ρ' M W id b := by
  cases b with
  | cells cs t => obtain ⟨g, vs, h1, h2, h3⟩ := h; exact ⟨g, vs, (hr id).trans h1, h2, All2L_ren hr h3⟩
  | row t es => obtain ⟨v, xs, h1, h2⟩ := h; exact ⟨v, xs, (hr id).trans h1, h2⟩
  | spread t es =>
    rcases h with ⟨h1, h2⟩ | ⟨g, n, cur, h1, h2⟩
    · exact .inl ⟨(hr id).trans h1, h2⟩
    · exact .inr ⟨g, n, cur, (hr id).trans h1, h2⟩
  | rowp t es n ls => obtain ⟨v, xs, h1, h2, h3, h4⟩ := h; exact ⟨v, xs, (hr id).trans h1, h2, h3.to fun vs => All2L_ren hr, h4⟩
  | map t m => obtain ⟨g, es, c, h1, h2⟩ := h; exact ⟨g, es, c, (hr id).trans h1, h2⟩
end ren

/-- FORGETTING, with other names for one's blocks. mpl: the new names, and the old ones. -/
theorem ghost_of {n0 : Nat} (mpl : List (Nat × Nat)) {R : List (Nat × Path × A)} {O : List (Nat × Blk)} {n1 z : Nat} (hz : s.sz = z) (hn : Nat.ble n0 n1 = true) (hk : keysLt n1 mpl = true) (hi : idOn s.nx mpl n0 = true)
    (hd : distinct (O.map fun q => mpOf s.nx mpl q.1) = true) (hR : RegsIn (mpOf s.nx mpl) s.regs R) (hO : OwnIn (mpOf s.nx mpl) s.own O) : Ghost P n0 s ⟨R, O, n1, [], [], z⟩ := by
  intro X ρ M a W hX g
  have hr : ∀ i, (fun i => ρ (mpOf s.nx mpl i)) i = ρ (mpOf s.nx mpl i) := fun _ => rfl
  have hown : ∀ id b, (id, b) ∈ O → (mpOf s.nx mpl id, renBlk (mpOf s.nx mpl) b) ∈ s.own := fun id b h => look_mem (hO.get h)
  refine ⟨fun i => ρ (mpOf s.nx mpl i), M, ⟨g.os, g.tape, g.output, g.size, g.old, g.imm, g.mono, g.newM, ?_, ?_, g.rfr, ?_, ?_, ?_, ?_⟩, ?_, ?_, ?_, ?_, holds_nil _, g.defers, ?_⟩
  · intro i v hv
    have hlt : i < n0 := by
      rcases Nat.lt_or_ge i n0 with h | h
      · exact h
      · rw [g.rfr i (by omega)] at hv; cases hv
    show ρ (mpOf s.nx mpl i) = some v
    rw [idOn_eq hi hlt]
    exact g.rle i v hv
  · rw [hX]; exact Nat.le_of_ble_eq_true hn
  · intro id hid
    show ρ (mpOf s.nx mpl id) = none
    have : look id mpl = none := by
      cases h : look id mpl with
      | none => rfl
      | some j => have := keysLt_look hk h; simp at hid; omega
    simp only [mpOf, this, Option.getD_none]
    exact g.fresh _ (Nat.le_refl _)
  · intro id b h
    exact BlkOK_ren hr (g.own _ _ (hown id b h))
  · intro id b v k h hv hk'
    exact g.mine _ _ v k (hown id b h) hv hk'
  · intro id b id' b' v v' k h h' hv hv' hk' hk''
    have := g.dist _ _ _ _ v v' k (hown id b h) (hown id' b' h') hv hv' hk' hk''
    have e := distinct_inj hd h h' this.1
    exact ⟨congrArg Prod.fst e, congrArg Prod.snd e⟩
  · intro k p v h
    obtain ⟨rfl, h1⟩ := hR.get (look_mem h)
    obtain ⟨x, h2, h3⟩ := look_reg g h1
    exact ⟨x, h2, fun _ => DenA_ren hr h3, fun hh => absurd (holds_nil _) hh⟩
  · intro k p v h t b htb
    obtain ⟨rfl, _⟩ := hR.get h
    simp at htb
  · intro k q x h; simp [look] at h
  · intro k q x h; simp at h
  · exact g.sz.trans hz

end Go.Cel

set_option linter.unusedVariables false
set_option linter.unusedSimpArgs false
namespace Go.Cel
variable {P : Program} {T : Nat → Ty} {X : CtxD} {ρ : Rho} {M : Imm} {s s' : St} {a : Act} {W : World} {p : Path} {o : Oper} {v : A}

/-- What a block's name becomes: a row, or cells. -/
inductive Fr where
  | row (t : TypeId) (es : List (List D))
  | cells (cs : List D)

def frC (id : Nat) (x : Fr) : C → C
  | .d y => .d y
  | .ptr j off => bif Nat.beq j id then (match x with | .cells cs => .d (.eptr (cs.drop off)) | .row _ _ => .ptr j off) else .ptr j off

def allDC : List C → Option (List D)
  | [] => some []
  | .d x :: r => match allDC r with
    | some l => some (x :: l)
    | none => none
  | .ptr _ _ :: _ => none

def frL (id : Nat) (x : Fr) (l : L) : L :=
  match l with
  | .d y => .d y
  | .ptr j off => bif Nat.beq j id then (match x with | .cells cs => .d (.eptr (cs.drop off)) | .row _ _ => .ptr j off) else .ptr j off
  | .orow j => bif Nat.beq j id then (match x with | .row t es => .d (.seq t es) | .cells _ => .orow j) else .orow j
  | .optr j i off sz => .optr j i off sz
  | .osl j lo hi sz => .osl j lo hi sz
  | .omap j => .omap j
  | .ofn f a b => match allDC (a.map (frC id x)), allDC (b.map (frC id x)) with
    | some a', some b' => .d (.fn f a' b')
    | _, _ => .ofn f (a.map (frC id x)) (b.map (frC id x))

def forceL {β : Type} (l : L) (k : L → Option β) : Option β :=
  match l with
  | .d y => k (.d y)
  | .ptr j off => k (.ptr j off)
  | .orow j => k (.orow j)
  | .optr j i off sz => k (.optr j i off sz)
  | .osl j lo hi sz => k (.osl j lo hi sz)
  | .omap j => k (.omap j)
  | .ofn f a b => k (.ofn f a b)

def frCells {β : Type} (id : Nat) (x : Fr) (k : List L → Option β) : List L → List L → Option β
  | [], acc => revGo acc [] k
  | l :: r, acc => forceL (frL id x l) fun l' => frCells id x k r (l' :: acc)

def frOwn {β : Type} (id : Nat) (x : Fr) (k : List (Nat × Blk) → Option β) : List (Nat × Blk) → List (Nat × Blk) → Option β
  | [], acc => revGo acc [] k
  | (j, .cells cs t) :: r, acc => bif Nat.beq j id then frOwn id x k r acc else frCells id x (fun cs' => frOwn id x k r ((j, .cells cs' t) :: acc)) cs []
  | (j, .rowp t es n cs) :: r, acc => bif Nat.beq j id then frOwn id x k r acc else frCells id x (fun cs' => frOwn id x k r ((j, .rowp t es n cs') :: acc)) cs []
  | (j, b) :: r, acc => bif Nat.beq j id then frOwn id x k r acc else frOwn id x k r ((j, b) :: acc)

def frRegs {β : Type} (id : Nat) (x : Fr) (k : List (Nat × Path × A) → Option β) : List (Nat × Path × A) → List (Nat × Path × A) → Option β
  | [], acc => revGo acc [] k
  | (d, p, .b (.l l)) :: r, acc => forceL (frL id x l) fun l' => frRegs id x k r ((d, p, .b (.l l')) :: acc)
  | (d, p, .b (.agg cs)) :: r, acc => frCells id x (fun cs' => frRegs id x k r ((d, p, .b (.agg cs')) :: acc)) cs []
  | (d, p, v) :: r, acc => frRegs id x k r ((d, p, v) :: acc)

def allD {β : Type} (k : List D → Option β) : List L → List D → Option β
  | [], acc => revGo acc [] k
  | .d x :: r, acc => allD k r (x :: acc)
  | _ :: _, _ => none

def freeze (id : Nat) (s : St) : Option St :=
  match s with
  | ⟨R, O, n, g, m, z⟩ => match look id O with
    | some (.row t es) => frOwn id (.row t es) (fun O' => frRegs id (.row t es) (fun R' => some ⟨R', O', n, g, m, z⟩) R []) O []
    | some (.cells cs _) => allD (fun ds => frOwn id (.cells ds) (fun O' => frRegs id (.cells ds) (fun R' => some ⟨R', O', n, g, m, z⟩) R []) O []) cs []
    | _ => none

/-- What is known of it in memory that none turns. -/
def FrOK (P : Program) (ρ : Rho) (M : Imm) (id : Nat) : Fr → Prop
  | .row t es => ∀ v, ρ id = some v → DenD P M (.seq t es) v
  | .cells cs => ∀ g, ρ id = some (.pointer (some ⟨g, 0, none⟩)) → ∀ off, DenD P M (.eptr (cs.drop off)) (.pointer (some ⟨g, off, none⟩))

section fr
variable {id : Nat} {x : Fr} (hx : FrOK P ρ M id x)
include hx
theorem frC_den {c : C} {v : Value} (h : DenC P ρ M c v) : DenC P ρ M (frC id x c) v := by
  cases c with
  | d y => exact h
  | ptr j off =>
    simp only [frC]
    cases hb : Nat.beq j id with
    | false => exact h
    | true =>
      obtain rfl := Nat.eq_of_beq_eq_true hb
      cases x with
      | row t es => exact h
      | cells cs =>
        obtain ⟨g, h1, rfl⟩ := h
        exact hx g h1 off
theorem All2_frC : ∀ {cs : List C} {vs : List Value}, All2 (DenC P ρ M) cs vs → All2 (DenC P ρ M) (cs.map (frC id x)) vs
  | [], [], _ => trivial
  | c :: cs, v :: vs, h => ⟨frC_den hx h.1, All2_frC h.2⟩
  | [], _ :: _, h => h.elim
  | _ :: _, [], h => h.elim
omit hx in
theorem allDC_den : ∀ {cs : List C} {l : List D} {vs : List Value}, allDC cs = some l → All2 (DenC P ρ M) cs vs → All2 (DenD P M) l vs
  | [], l, [], h, _ => by simp [allDC] at h; subst h; trivial
  | .d y :: r, l, v :: vs, h, g => by
    simp only [allDC] at h
    split at h
    · rename_i l' hl
      simp at h; subst h
      exact ⟨g.1, allDC_den hl g.2⟩
    · simp at h
  | .ptr _ _ :: _, _, _, h, _ => by simp [allDC] at h
  | [], _, _ :: _, _, g => g.elim
  | .d _ :: _, _, [], _, g => g.elim
omit hx in
theorem All2_choose : ∀ {l : List D} {vs : List Value}, All2 (DenD P M) l vs → vs.length = l.length ∧ ∃ f : Nat → Value, (∀ (i : Nat) (x : D), l[i]? = some x → vs[i]? = some (f i)) ∧ ∀ (i : Nat) (x : D), l[i]? = some x → DenD P M x (f i) := by
  intro l vs h
  refine ⟨(All2.length h).symm, fun i => vs[i]?.getD Go.undef, fun i x hi => ?_, fun i x hi => ?_⟩
  · obtain ⟨b, h1, _⟩ := All2.get h hi; simp [h1]
  · obtain ⟨b, h1, h2⟩ := All2.get h hi; simp only [h1, Option.getD_some]; exact h2
theorem frL_den {l : L} {v : Value} (h : DenL P ρ M l v) : DenL P ρ M (frL id x l) v := by
  cases l with
  | d y => exact h
  | ptr j off =>
    simp only [frL]
    cases hb : Nat.beq j id with
    | false => exact h
    | true =>
      obtain rfl := Nat.eq_of_beq_eq_true hb
      cases x with
      | row t es => exact h
      | cells cs =>
        obtain ⟨g, h1, rfl⟩ := h
        exact hx g h1 off
  | orow j =>
    simp only [frL]
    cases hb : Nat.beq j id with
    | false => exact h
    | true =>
      obtain rfl := Nat.eq_of_beq_eq_true hb
      cases x with
      | row t es => exact hx v h.1
      | cells cs => exact h
  | optr j i off sz => exact h
  | osl j lo hi sz => exact h
  | omap j => exact h
  | ofn f a b =>
    obtain ⟨xs, ys, h1, h2, h3⟩ := h
    have h2' := All2_frC hx h2
    have h3' := All2_frC hx h3
    simp only [frL]
    split
    · rename_i a' b' ha hb
      obtain ⟨l1, f1, d1, e1⟩ := All2_choose (allDC_den ha h2')
      obtain ⟨l2, f2, d2, e2⟩ := All2_choose (allDC_den hb h3')
      rw [h1]
      exact .fn f a' b' xs ys l1 l2 f1 f2 d1 d2 e1 e2
    · exact ⟨xs, ys, h1, h2', h3'⟩
theorem All2_frL : ∀ {cs : List L} {vs : List Value}, All2 (DenL P ρ M) cs vs → All2 (DenL P ρ M) (cs.map (frL id x)) vs
  | [], [], _ => trivial
  | c :: cs, v :: vs, h => ⟨frL_den hx h.1, All2_frL h.2⟩
  | [], _ :: _, h => h.elim
  | _ :: _, [], h => h.elim
end fr

theorem forceL_eq {β : Type} (l : L) (k : L → Option β) : forceL l k = k l := by cases l <;> rfl
theorem frCells_eq {β : Type} {id : Nat} {x : Fr} {k : List L → Option β} : ∀ (l acc : List L), frCells id x k l acc = k (acc.reverse ++ l.map (frL id x))
  | [], acc => by simp [frCells, revGo_eq]
  | l :: r, acc => by simp [frCells, forceL_eq, frCells_eq r]

def frBlk (id : Nat) (x : Fr) : Blk → Blk
  | .cells cs t => .cells (cs.map (frL id x)) t
  | .rowp t es n cs => .rowp t es n (cs.map (frL id x))
  | b => b
def frO (id : Nat) (x : Fr) : List (Nat × Blk) → List (Nat × Blk)
  | [] => []
  | (j, b) :: r => bif Nat.beq j id then frO id x r else (j, frBlk id x b) :: frO id x r
def frV (id : Nat) (x : Fr) : A → A
  | .b (.l l) => .b (.l (frL id x l))
  | .b (.agg cs) => .b (.agg (cs.map (frL id x)))
  | v => v
theorem frOwn_eq {β : Type} {id : Nat} {x : Fr} {k : List (Nat × Blk) → Option β} : ∀ (l acc : List (Nat × Blk)), frOwn id x k l acc = k (acc.reverse ++ frO id x l)
  | [], acc => by simp [frOwn, revGo_eq, frO]
  | (j, .cells cs t) :: r, acc => by
    simp only [frOwn, frCells_eq, frO]
    cases Nat.beq j id <;> simp [frOwn_eq r, frBlk]
  | (j, .row t es) :: r, acc => by
    simp only [frOwn, frO]
    cases Nat.beq j id <;> simp [frOwn_eq r, frBlk]
  | (j, .spread t es) :: r, acc => by
    simp only [frOwn, frO]
    cases Nat.beq j id <;> simp [frOwn_eq r, frBlk]
  | (j, .rowp t es n cs) :: r, acc => by
    simp only [frOwn, frCells_eq, frO]
    cases Nat.beq j id <;> simp [frOwn_eq r, frBlk]
  | (j, .map t es) :: r, acc => by
    simp only [frOwn, frO]
    cases Nat.beq j id <;> simp [frOwn_eq r, frBlk]
theorem frRegs_eq {β : Type} {id : Nat} {x : Fr} {k : List (Nat × Path × A) → Option β} : ∀ (l acc : List (Nat × Path × A)), frRegs id x k l acc = k (acc.reverse ++ l.map fun q => (q.1, q.2.1, frV id x q.2.2))
  | [], acc => by simp [frRegs, revGo_eq]
  | (d, p, .b (.l l)) :: r, acc => by simp [frRegs, forceL_eq, frRegs_eq r, frV]
  | (d, p, .b (.agg cs)) :: r, acc => by simp [frRegs, frCells_eq, frRegs_eq r, frV]
  | (d, p, .tup vs) :: r, acc => by simp [frRegs, frRegs_eq r, frV]
  | (d, p, .undef) :: r, acc => by simp [frRegs, frRegs_eq r, frV]
theorem allD_some {β : Type} {k : List D → Option β} {y : β} : ∀ {l : List L} {acc : List D}, allD k l acc = some y → ∃ ds, l = ds.map L.d ∧ k (acc.reverse ++ ds) = some y
  | [], acc, h => ⟨[], rfl, by simpa [allD, revGo_eq] using h⟩
  | .d x :: r, acc, h => by
    obtain ⟨ds, h1, h2⟩ := allD_some (by simpa [allD] using h)
    exact ⟨x :: ds, by simp [h1], by simpa using h2⟩
  | .ptr _ _ :: _, _, h => by simp [allD] at h
  | .orow _ :: _, _, h => by simp [allD] at h
  | .optr _ _ _ _ :: _, _, h => by simp [allD] at h
  | .osl _ _ _ _ :: _, _, h => by simp [allD] at h
  | .omap _ :: _, _, h => by simp [allD] at h
  | .ofn _ _ _ :: _, _, h => by simp [allD] at h

theorem look_map {k : Nat} {f : A → A} : ∀ {l : List (Nat × Path × A)}, look k (l.map fun q => (q.1, q.2.1, f q.2.2)) = (look k l).map fun q => (q.1, f q.2)
  | [] => rfl
  | (j, p, v) :: r => by
    simp only [List.map_cons, look_cons]
    by_cases e : j = k
    · simp [e]
    · simp [e, look_map (l := r)]

theorem frO_mem {id i : Nat} {x : Fr} {b : Blk} : ∀ {l : List (Nat × Blk)}, (i, b) ∈ frO id x l → i ≠ id ∧ ∃ c, (i, c) ∈ l ∧ b = frBlk id x c
  | [], h => by simp [frO] at h
  | (j, c) :: r, h => by
    simp only [frO] at h
    cases hb : Nat.beq j id with
    | true =>
      simp only [hb, cond_true] at h
      obtain ⟨h1, c', h2, h3⟩ := frO_mem h
      exact ⟨h1, c', List.mem_cons_of_mem _ h2, h3⟩
    | false =>
      simp only [hb, cond_false] at h
      rcases List.mem_cons.1 h with e | h
      · cases e
        exact ⟨fun e => by subst e; simp [Nat.beq_refl] at hb, c, List.mem_cons_self, rfl⟩
      · obtain ⟨h1, c', h2, h3⟩ := frO_mem h
        exact ⟨h1, c', List.mem_cons_of_mem _ h2, h3⟩

theorem frBlk_ok {id i : Nat} {x : Fr} {b : Blk} (hx : FrOK P ρ M id x) (h : BlkOK P ρ M W i b) : BlkOK P ρ M W i (frBlk id x b) := by
  cases b with
  | cells cs t => obtain ⟨g, vs, h1, h2, h3⟩ := h; exact ⟨g, vs, h1, h2, All2_frL hx h3⟩
  | row t es => exact h
  | spread t es => exact h
  | rowp t es n ls => obtain ⟨v, xs, h1, h2, h3, h4⟩ := h; exact ⟨v, xs, h1, h2, h3.to fun vs => All2_frL hx, h4⟩
  | map t m => exact h

theorem frV_den {id : Nat} {x : Fr} (hx : FrOK P ρ M id x) {v : A} {y : Value} (h : DenA P ρ M v y) : DenA P ρ M (frV id x v) y := by
  cases v with
  | b b => cases b with
    | l l => exact frL_den hx h
    | agg cs => obtain ⟨vs, h1, h2⟩ := h; exact ⟨vs, h1, All2_frL hx h2⟩
  | tup vs => exact h
  | undef => exact h

/-- the general step: M' takes the block in. -/
theorem freeze_gam {n0 : Nat} {id : Nat} {b : Blk} {x : Fr} {R : List (Nat × Path × A)} {O : List (Nat × Blk)} {n : Nat} {gv : List (Nat × Path × Bool)} {as : Path} {z : Nat}
    (hx : ∀ (ρ : Rho) (M : Imm) (W : World), (∀ b o, M b = some o → W.heap[b]? = some o) → BlkOK P ρ M W id b → (∀ v g, ρ id = some v → gOf v = some g → M g = W.heap[g]?) → FrOK P ρ M id x) (hl : look id O = some b) :
    Ghost P n0 ⟨R, O, n, gv, as, z⟩ ⟨R.map fun q => (q.1, q.2.1, frV id x q.2.2), frO id x O, n, gv, as, z⟩ := by
  intro X ρ M a W hX g
  have hm := look_mem hl
  have hb := g.own _ _ hm
  let M' : Imm := fun k => if (ρ id).bind gOf = some k then W.heap[k]? else M k
  have hM : M.le M' := fun k ob hk => by
    show (if (ρ id).bind gOf = some k then W.heap[k]? else M k) = some ob
    split
    · exact g.imm k ob hk
    · exact hk
  have himm : ∀ k ob, M' k = some ob → W.heap[k]? = some ob := fun k ob hk => by
    have hk' : (if (ρ id).bind gOf = some k then W.heap[k]? else M k) = some ob := hk
    split at hk'
    · exact hk'
    · exact g.imm k ob hk'
  have hfr : FrOK P ρ M' id x := hx ρ M' W himm (hb.keep (Rho.le.refl _) hM fun _ _ _ _ => rfl) fun v k hv hk => by
    show (if (ρ id).bind gOf = some k then W.heap[k]? else M k) = _
    rw [if_pos (by simp [hv, hk])]
  refine ⟨ρ, M', ⟨g.os, g.tape, g.output, g.size, g.old, himm, g.mono.trans hM, ?_, g.rle, g.nle, g.rfr, g.fresh, ?_, ?_, ?_⟩, ?_, ?_, g.gv, g.wfg, g.asm, g.defers, g.sz⟩
  · intro k ob hk
    have hk' : (if (ρ id).bind gOf = some k then W.heap[k]? else M k) = some ob := hk
    split at hk'
    · rename_i he
      cases hv : ρ id with
      | none => simp [hv] at he
      | some v => exact .inr (g.mine id b v k hm hv (by simpa [hv] using he)).2
    · exact g.newM k ob hk'
  · intro i c hi
    obtain ⟨h1, c', h2, rfl⟩ := frO_mem hi
    exact frBlk_ok hfr ((g.own _ _ h2).keep (Rho.le.refl _) hM fun _ _ _ _ => rfl)
  · intro i c v k hi hv hk
    obtain ⟨h1, c', h2, rfl⟩ := frO_mem hi
    have := g.mine i c' v k h2 hv hk
    refine ⟨?_, this.2⟩
    show (if (ρ id).bind gOf = some k then W.heap[k]? else M k) = none
    rw [if_neg]
    · exact this.1
    · intro he
      cases hv' : ρ id with
      | none => simp [hv'] at he
      | some v' => exact h1 (g.dist i c' id b v v' k h2 hm hv hv' hk (by simpa [hv'] using he)).1
  · intro i c i' c' v v' k hi hi' hv hv' hk hk'
    obtain ⟨h1, d, h2, rfl⟩ := frO_mem hi
    obtain ⟨h1', d', h2', rfl⟩ := frO_mem hi'
    obtain ⟨e1, e2⟩ := g.dist i d i' d' v v' k h2 h2' hv hv' hk hk'
    exact ⟨e1, by rw [e2]⟩
  · intro k q u hk
    rw [look_map] at hk
    cases hl' : look k R with
    | none => simp [hl'] at hk
    | some e =>
      obtain ⟨q', u'⟩ := e
      simp [hl'] at hk
      obtain ⟨rfl, rfl⟩ := hk
      obtain ⟨y, h1, h2, h3⟩ := g.regs k q' u' hl'
      exact ⟨y, h1, fun hh => frV_den hfr (DenA.mono (Rho.le.refl _) hM (h2 hh)), h3⟩
  · intro k q u hk t b' htb
    obtain ⟨⟨k', q', u'⟩, h1, h2⟩ := List.mem_map.1 hk
    simp at h2
    obtain ⟨rfl, rfl, rfl⟩ := h2
    exact g.wfr k' q' u' h1 t b' htb

theorem Addr.add0 (g n : Nat) : (⟨g, 0, none⟩ : Addr).add n = ⟨g, n, none⟩ := by unfold Addr.add; split <;> simp_all

theorem ghost_freeze {n0 : Nat} (id : Nat) (h : freeze id s = some s') : Ghost P n0 s s' := by
  obtain ⟨R, O, n, gv, as, z⟩ := s
  simp only [freeze] at h
  split at h
  · rename_i t es hl
    rw [frOwn_eq, frRegs_eq] at h
    simp at h; subst h
    refine freeze_gam (fun ρ M W himm hb hM => ?_) hl
    intro v hv
    obtain ⟨u, xs, hu, how, hrep, hroom⟩ := hb
    rw [hu] at hv; cases hv
    rcases how.2 with ⟨rfl, h0⟩ | ⟨g, cap, cur, rfl, _, hg, hnc, hcm, hcs, htake⟩
    · obtain rfl : es = [] := List.eq_nil_of_length_eq_zero h0
      exact .seq0 t none 0
    · have hMg := hM _ g hu rfl
      have hcell : ∀ j u, xs[j]? = some u → Imm.cell M ⟨g, j, none⟩ = some u := by
        intro j u hj
        unfold Imm.cell
        simp only [hMg, hg]
        simp only [Option.isSome_none, Bool.false_eq_true, if_false]
        rw [← htake, List.getElem?_take] at hj
        split at hj
        · simpa using hj
        · simp at hj
      by_cases hes : es = []
      · subst hes; exact .seq0 t _ cap
      · refine .seq t es ⟨g, 0, none⟩ cap (fun i j => xs[i * P.cellsOf t + j]?.getD Go.undef) hnc hcm hroom (fun i cs hi => (hrep.2 i cs hi).1) ?_ ?_
        · intro i cs j x hi hj
          obtain ⟨u, h1, h2⟩ := (hrep.2 i cs hi).2 j x hj
          rw [Addr.add0, hcell _ _ h1, h1]; rfl
        · intro i cs j x hi hj
          obtain ⟨u, h1, h2⟩ := (hrep.2 i cs hi).2 j x hj
          simp only [h1, Option.getD_some]; exact h2
  · rename_i cs t hl
    obtain ⟨ds, rfl, h2⟩ := allD_some h
    rw [frOwn_eq, frRegs_eq] at h2
    simp at h2; subst h2
    refine freeze_gam (fun ρ M W himm hb hM => ?_) hl
    intro g hg off
    obtain ⟨g', vs, h1, h2, h3⟩ := hb
    rw [hg] at h1; simp at h1; subst h1
    have hMg := hM _ g hg rfl
    have hall : ∀ (j : Nat) (x : D), ds[j]? = some x → ∃ u, vs[j]? = some u ∧ DenD P M x u := fun j x hj => by
      obtain ⟨u, h4, h5⟩ := All2.get h3 (show (ds.map L.d)[j]? = some (.d x) by simp [hj])
      exact ⟨u, h4, h5⟩
    refine .eptr _ _ (fun j => vs[off + j]?.getD Go.undef) ?_ ?_
    · intro j x hj
      obtain ⟨u, h4, _⟩ := hall (off + j) x (by simpa using hj)
      have e : (⟨g, off, none⟩ : Addr).add j = ⟨g, off + j, none⟩ := Addr.add_lit g off j
      rw [e]
      unfold Imm.cell
      simp [hMg, h2, h4]
    · intro j x hj
      obtain ⟨u, h4, h5⟩ := hall (off + j) x (by simpa using hj)
      simp only [h4, Option.getD_some]; exact h5
  · simp at h

end Go.Cel

set_option linter.unusedVariables false
set_option linter.unusedSimpArgs false
namespace Go.Cel
variable {P : Program} {T : Nat → Ty} {X : CtxD} {ρ : Rho} {M : Imm} {r s s' : St} {a : Act} {W : World} {p : Path} {o : Oper} {v : A}

/-- r is a part of s. -/
structure SubS (r s : St) : Prop where
  regs : ∀ k y, look k r.regs = some y → look k s.regs = some y
  gv : ∀ k y, look k r.gv = some y → look k s.gv = some y
  own : ∀ id b, (id, b) ∈ r.own → (id, b) ∈ s.own
  asm : ∀ t b, (t, b) ∈ r.asm → (t, b) ∈ s.asm ∧ look t r.gv ≠ none
  wfr : ∀ k p v, (k, p, v) ∈ r.regs → ∀ t b, (t, b) ∈ p → look t r.gv ≠ none
  wfg : ∀ k q x, (k, q, x) ∈ r.gv → ∀ t b, (t, b) ∈ q → look t r.gv ≠ none
  nx : s.nx ≤ r.nx
  sz : r.sz = s.sz

theorem SubS.self (g : Gam P X ρ M s a W) : SubS s s :=
  ⟨fun _ _ h => h, fun _ _ h => h, fun _ _ h => h, fun t b h => ⟨h, by obtain ⟨q, x, h1, _⟩ := g.asm t b h; simp [h1]⟩, g.wfr, g.wfg, Nat.le_refl _, rfl⟩

theorem SubS.holds (h : SubS r s) (hp : ∀ t b, (t, b) ∈ p → look t r.gv ≠ none) : holds r.gv p ↔ Cel.holds s.gv p := by
  constructor
  · intro hh t b hm
    obtain ⟨q, x, h1, h2⟩ := hh t b hm
    exact ⟨q, x, h.gv _ _ h1, h2⟩
  · intro hh t b hm
    obtain ⟨q, x, h1, h2⟩ := hh t b hm
    cases hl : look t r.gv with
    | none => exact absurd hl (hp t b hm)
    | some y => rw [h.gv _ _ hl] at h1; cases h1; exact ⟨q, x, rfl, h2⟩

theorem Gam.sub (g : Gam P X ρ M s a W) (h : SubS r s) : Gam P X ρ M r a W := by
  refine ⟨⟨g.os, g.tape, g.output, g.size, g.old, g.imm, g.mono, g.newM, g.rle, Nat.le_trans g.nle h.nx, g.rfr, fun id hid => g.fresh id (Nat.le_trans h.nx hid), fun id b hm => g.own id b (h.own _ _ hm), fun id b v k hm => g.mine id b v k (h.own _ _ hm), fun id b id' b' v v' k hm hm' => g.dist id b id' b' v v' k (h.own _ _ hm) (h.own _ _ hm')⟩, ?_, h.wfr, ?_, h.wfg, ?_, g.defers, g.sz.trans h.sz.symm⟩
  · intro k p v hk
    obtain ⟨x, h1, h2, h3⟩ := g.regs k p v (h.regs _ _ hk)
    have := h.holds (h.wfr k p v (look_mem hk))
    exact ⟨x, h1, fun hh => h2 (this.1 hh), fun hh => h3 fun h' => hh (this.2 h')⟩
  · intro k q x hk
    obtain ⟨y, h1, h2, h3⟩ := g.gv k q x (h.gv _ _ hk)
    have := h.holds (h.wfg k q x (look_mem hk))
    exact ⟨y, h1, fun hh => h2 (this.1 hh), fun hh => h3 fun h' => hh (this.2 h')⟩
  · exact (h.holds fun t b hm => (h.asm t b hm).2).2 fun t b hm => g.asm t b (h.asm t b hm).1

/-- Room for more names. -/
theorem Gam.raise {m : Nat} (g : Gam P X ρ M s a W) (h : s.nx ≤ m) : Gam P X ρ M { s with nx := m } a W :=
  ⟨⟨g.os, g.tape, g.output, g.size, g.old, g.imm, g.mono, g.newM, g.rle, Nat.le_trans g.nle h, g.rfr, fun id hid => g.fresh id (Nat.le_trans h hid), g.own, g.mine, g.dist⟩, g.regs, g.wfr, g.gv, g.wfg, g.asm, g.defers, g.sz⟩

/-- One block more in the world, of one's own, with any name that is free. -/
theorem Gam.newBlkAt (g : Gam P X ρ M s a W) {n : Nat} (hfr : ρ n = none) (hlt : n < s.nx) {ob : Obj} {hv : Value} (hg : gOf hv = some W.heap.size) {b : Blk} {W' : World} (hW : W' = { W with heap := W.heap.push ob }) (hb : BlkOK P (ρ.add n hv) M W' n b) {O : List (Nat × Blk)} (hO : O = (n, b) :: s.own) :
    Gam P X (ρ.add n hv) M { s with own := O } a W' := by
  subst hW hO
  have hle := Rho.le_add (v := hv) hfr
  have hold : ∀ k, k < W.heap.size → (W.heap.push ob)[k]? = W.heap[k]? := fun k hk => by rw [Array.getElem?_push, if_neg (Nat.ne_of_lt hk)]
  have hrho : ∀ id b, (id, b) ∈ s.own → (ρ.add n hv) id = ρ id := fun id b hm => by
    unfold Rho.add
    by_cases e : id = n
    · subst e
      exact ((g.own _ _ hm).rho hfr).elim
    · simp [e]
  have hnew : (ρ.add n hv) n = some hv := by simp [Rho.add]
  refine ⟨⟨g.os, g.tape, g.output, ?_, ?_, ?_, g.mono, g.newM, g.rle.trans hle, g.nle, g.rfr, ?_, ?_, ?_, ?_⟩, ?_, g.wfr, g.gv, g.wfg, g.asm, g.defers, g.sz⟩
  · have := g.size; simp; omega
  · intro k hk hK
    rw [hold k (Nat.lt_of_lt_of_le hk g.size)]
    exact g.old k hk hK
  · intro k ob' hk
    have := g.imm k ob' hk
    rw [hold k (Array.getElem?_eq_some_iff.1 this).1]
    exact this
  · intro id hid
    unfold Rho.add
    rw [if_neg (by simp at hid; omega)]
    exact g.fresh id hid
  · intro id b' hm
    rcases List.mem_cons.1 hm with e | hm
    · cases e; exact hb
    · refine (g.own id b' hm).keep hle (Imm.le.refl _) fun u k hu hk => ?_
      exact hold k ((g.own id b' hm).lt hu hk)
  · intro id b' u k hm hu hk
    rcases List.mem_cons.1 hm with e | hm
    · cases e
      rw [hnew] at hu; cases hu
      rw [hg] at hk; cases hk
      exact ⟨gOf_none_imm g, .inr g.size⟩
    · rw [hrho id b' hm] at hu
      exact g.mine id b' u k hm hu hk
  · intro id b1 id' b2 u u' k hm hm' hu hu' hk hk'
    rcases List.mem_cons.1 hm with e | hm <;> rcases List.mem_cons.1 hm' with e' | hm'
    · cases e; cases e'; exact ⟨rfl, rfl⟩
    · cases e
      rw [hnew] at hu; cases hu
      rw [hg] at hk; cases hk
      rw [hrho id' b2 hm'] at hu'
      exact absurd ((g.own id' b2 hm').lt hu' hk') (Nat.lt_irrefl _)
    · cases e'
      rw [hnew] at hu'; cases hu'
      rw [hg] at hk'; cases hk'
      rw [hrho id b1 hm] at hu
      exact absurd ((g.own id b1 hm).lt hu hk) (Nat.lt_irrefl _)
    · rw [hrho id b1 hm] at hu
      rw [hrho id' b2 hm'] at hu'
      exact g.dist id b1 id' b2 u u' k hm hm' hu hu' hk hk'
  · intro k q u hk
    obtain ⟨x, h1, h2, h3⟩ := g.regs k q u hk
    exact ⟨x, h1, fun hh => DenA.mono hle (Imm.le.refl _) (h2 hh), h3⟩

/-- A world with all that there was, as it was. -/
structure Kept (W W' : World) : Prop where
  os : W'.os = W.os
  tape : W'.tape = W.tape
  output : W'.output = W.output
  size : W.heap.size ≤ W'.heap.size
  old : ∀ b, b < W.heap.size → W'.heap[b]? = W.heap[b]?
theorem Kept.refl (W : World) : Kept W W := ⟨rfl, rfl, rfl, Nat.le_refl _, fun _ _ => rfl⟩

theorem Gam.kept {W' : World} (g : Gam P X ρ M s a W) (h : Kept W W') : Gam P X ρ M s a W' := by
  refine ⟨⟨h.os.trans g.os, h.tape.trans g.tape, h.output.trans g.output, Nat.le_trans g.size h.size, fun b hb hk => ?_, fun b ob hb => ?_, g.mono, g.newM, g.rle, g.nle, g.rfr, g.fresh, fun id b hb => ?_, g.mine, g.dist⟩, g.regs, g.wfr, g.gv, g.wfg, g.asm, g.defers, g.sz⟩
  · rw [h.old b (Nat.lt_of_lt_of_le hb g.size)]; exact g.old b hb hk
  · have := g.imm b ob hb
    rw [h.old b (Array.getElem?_eq_some_iff.1 this).1]; exact this
  · exact (g.own id b hb).keep (Rho.le.refl _) (Imm.le.refl _) fun v k hv hk => h.old k ((g.own id b hb).lt hv hk)

/-- AN OPERATION THAT YIELDS v, under p, and turns nothing of one's own. -/
def Yl (P : Program) (o : Oper) (r : St) (p : Path) (v : A) : Prop :=
  ∀ X ρ M s a W (K : Act → World → Prop) (Q : Exit → Act → World → Prop), Gam P X ρ M s a W → SubS r s → holds s.gv p →
    (∀ M' W' x, Kept W W' → M.le M' → Gam P X ρ M' s a W' → DenA P ρ M' v x → K (a.put o.dst x) W') → o.wp P a W K Q

/-- What an operation turns: out of which part of a state; slots; guards' bools; one's own blocks that go and come; names that are new. -/
structure Rec where
  r : St
  ps : List (Nat × Path × A)
  gs : List (Nat × Path × Bool)
  del : List Nat
  add : List (Nat × Blk)
  new : List Nat

def memN (x : Nat) : List Nat → Bool
  | [] => false
  | y :: r => bif Nat.beq y x then true else memN x r
def remGo (del : List Nat) (k : List (Nat × Blk) → St) : List (Nat × Blk) → List (Nat × Blk) → St
  | [], acc => back acc []
  | (id, b) :: r, acc => bif memN id del then remGo del k r acc else remGo del k r ((id, b) :: acc)
where back : List (Nat × Blk) → List (Nat × Blk) → St
  | [], l => k l
  | x :: r, l => back r (x :: l)
def addGo (k : List (Nat × Blk) → St) : List (Nat × Blk) → List (Nat × Blk) → St
  | [], O => k O
  | x :: r, O => addGo k r (x :: O)
def consGo {α β : Type} (k : List α → β) : List α → List α → β
  | [], O => k O
  | x :: r, O => consGo k r (x :: O)

/-- The state behind it. -/
def apply (s : St) (c : Rec) : St :=
  match s with
  | ⟨R, O, n, g, m, z⟩ => remGo c.del (fun O => addGo (fun O => consGo (fun R => consGo (fun g => ⟨R, O, n, g, m, z⟩) c.gs g) c.ps R) c.add O) O []

def remP (del : List Nat) (O : List (Nat × Blk)) : List (Nat × Blk) := O.filter fun q => !memN q.1 del
theorem remGo_back (del : List Nat) (k : List (Nat × Blk) → St) : ∀ (r l : List (Nat × Blk)), remGo.back k r l = k (r.reverse ++ l)
  | [], l => by simp [remGo.back]
  | x :: r, l => by simp [remGo.back, remGo_back del k r]
theorem remGo_eq (del : List Nat) (k : List (Nat × Blk) → St) : ∀ (l acc : List (Nat × Blk)), remGo del k l acc = k (acc.reverse ++ remP del l)
  | [], acc => by simp [remGo, remGo_back del, remP]
  | (id, b) :: r, acc => by
    simp only [remGo]
    cases h : memN id del <;> simp [remGo_eq del k r, remP, h]
theorem addGo_eq (k : List (Nat × Blk) → St) : ∀ (l O : List (Nat × Blk)), addGo k l O = k (l.reverse ++ O)
  | [], O => by simp [addGo]
  | x :: r, O => by simp [addGo, addGo_eq k r]
theorem consGo_eq {α β : Type} (k : List α → β) : ∀ (l O : List α), consGo k l O = k (l.reverse ++ O)
  | [], O => by simp [consGo]
  | x :: r, O => by simp [consGo, consGo_eq k r]
theorem apply_eq (s : St) (c : Rec) : apply s c = ⟨c.ps.reverse ++ s.regs, c.add.reverse ++ remP c.del s.own, s.nx, c.gs.reverse ++ s.gv, s.asm, s.sz⟩ := by
  obtain ⟨R, O, n, g, m, z⟩ := s
  simp [apply, remGo_eq, addGo_eq, consGo_eq]
theorem memN_mem {x : Nat} : ∀ {l : List Nat}, memN x l = true ↔ x ∈ l
  | [] => by simp [memN]
  | y :: r => by
    simp only [memN]
    cases h : Nat.beq y x with
    | true => have := Nat.eq_of_beq_eq_true h; simp [this]
    | false =>
      have : x ≠ y := fun e => by subst e; simp [Nat.beq_refl] at h
      simp [memN_mem, this]

/-- AN OPERATION THAT TURNS WHAT c TELLS. -/
def Tl (P : Program) (o : Oper) (c : Rec) : Prop :=
  ∀ X ρ M s a W (K : Act → World → Prop) (Q : Exit → Act → World → Prop), Gam P X ρ M s a W → SubS c.r s → (∀ n ∈ c.new, ρ n = none ∧ n < s.nx) → (∀ x ∈ c.ps, look x.1 s.gv = none) →
    (∀ ρ' M' a' W', (∀ n, ρ n = none → n ∉ c.new → ρ' n = none) → Gam P X ρ' M' (apply s c) a' W' → K a' W') → o.wp P a W K Q

theorem Gam.putR (g : Gam P X ρ M s a W) {d : Nat} (hd : look d s.gv = none) (hz : d < s.sz) {x : Value} (hx : (holds s.gv p → DenA P ρ M v x) ∧ (¬ holds s.gv p → x = Go.undef)) (hp : ∀ t b, (t, b) ∈ p → look t s.gv ≠ none) :
    Gam P X ρ M { s with regs := (d, p, v) :: s.regs } (a.put (some d) x) W := by
  refine g.putS (d := some d) (s' := { s with regs := (d, p, v) :: s.regs }) ?_ hx hp
  obtain ⟨R, O, n, gv, m, z⟩ := s
  simp only at hd hz
  have : Nat.blt d z = true := Nat.ble_eq_true_of_le hz
  simp [put, hd, this]

/-! In the text's order. -/
theorem VL_Y (hT : TabOK P T) {n : Nat} {all rest : List Oper} {k : List It} {Q : Post} {t : Nat} {all' ops' : List Oper} {k' : List It} {s'' : St}
    (hy : Yl P o s [] v) (hg : ready all s o = true) (hp : put s o.dst [] v = some s')
    (h : resume T n all rest k s' = ⟨t, all', ops', k', s''⟩) (hv : VO P X ⟨t, all', ops', k', s''⟩ Q) : VL P X all (o :: rest) k s Q := by
  intro ρ M a W g
  refine wpList_do (ready_wanted g hg) (hy X ρ M s a W _ _ g (SubS.self g) (holds_nil _) fun M' W' x _ _ g' hd => ?_)
  exact VL_go hT h hv ρ M' _ W' (g'.putS hp ⟨fun _ => hd, fun hh => absurd (holds_nil _) hh⟩ (by simp))

/-- under which guards an operation stands. -/
def pathOf (all : List Oper) (s : St) (o : Oper) : Option Path :=
  match o.guard with
  | none => some []
  | some (j, b) => match all[j]? with
    | some oj => match oj.dst with
      | some t => match look t s.gv with
        | some (q, _) => some ((t, b) :: q)
        | none => none
      | none => none
    | none => none

theorem pathOf_wanted {all : List Oper} (g : Gam P X ρ M s a W) (h : pathOf all s o = some p) : (Region.wanted o (yielded all.toArray a.tmps) = true ↔ holds s.gv p) ∧ ∀ t b, (t, b) ∈ p → look t s.gv ≠ none := by
  unfold pathOf at h
  split at h
  · rename_i hg; simp at h; subst h; simp [Region.wanted, hg, holds_nil]
  · rename_i j b hg
    split at h
    · rename_i oj hj
      split at h
      · rename_i t ht
        split at h
        · rename_i q x hl
          simp at h; subst h
          refine ⟨wanted_guard g hg hj ht hl, fun t' b' hm => ?_⟩
          rcases List.mem_cons.1 hm with e | hm
          · cases e; simp [hl]
          · exact g.wfg _ _ _ (look_mem hl) _ _ hm
        · simp at h
      · simp at h
    · simp at h

/-- under guards that are not decided. -/
theorem VL_Yp (hT : TabOK P T) {n : Nat} {all rest : List Oper} {k : List It} {Q : Post} {t : Nat} {all' ops' : List Oper} {k' : List It} {s'' : St}
    (hg : pathOf all s o = some p) (hy : Yl P o s p v) (hp : put s o.dst p v = some s')
    (h : resume T n all rest k s' = ⟨t, all', ops', k', s''⟩) (hv : VO P X ⟨t, all', ops', k', s''⟩ Q) : VL P X all (o :: rest) k s Q := by
  intro ρ M a W g
  obtain ⟨hw, hkeys⟩ := pathOf_wanted g hg
  by_cases hh : holds s.gv p
  · refine wpList_do (hw.2 hh) (hy X ρ M s a W _ _ g (SubS.self g) hh fun M' W' x _ _ g' hd => ?_)
    exact VL_go hT h hv ρ M' _ W' (g'.putS hp ⟨fun _ => hd, fun h' => absurd hh h'⟩ hkeys)
  · exact wpList_pass (fun hx => hh (hw.1 hx)) (VL_go hT h hv ρ M _ W (g.putS hp ⟨fun h' => absurd h' hh, fun _ => rfl⟩ hkeys))

def allFresh (n m : Nat) : List Nat → Bool
  | [] => true
  | x :: r => Nat.ble n x && Nat.blt x m && allFresh n m r
theorem allFresh_mem {n m x : Nat} : ∀ {l : List Nat}, allFresh n m l = true → x ∈ l → n ≤ x ∧ x < m
  | [], _, h => by simp at h
  | y :: r, h, hm => by
    simp only [allFresh, Bool.and_eq_true] at h
    rcases List.mem_cons.1 hm with rfl | hm
    · exact ⟨Nat.le_of_ble_eq_true h.1.1, blt_lt h.1.2⟩
    · exact allFresh_mem h.2 hm
def noGv (gv : List (Nat × Path × Bool)) : List (Nat × Path × A) → Bool
  | [] => true
  | (d, _, _) :: r => (match look d gv with | none => true | some _ => false) && noGv gv r
theorem noGv_mem {gv : List (Nat × Path × Bool)} {x : Nat × Path × A} : ∀ {l : List (Nat × Path × A)}, noGv gv l = true → x ∈ l → look x.1 gv = none
  | [], _, h => by simp at h
  | (d, q, u) :: r, h, hm => by
    simp only [noGv, Bool.and_eq_true] at h
    rcases List.mem_cons.1 hm with rfl | hm
    · cases hl : look d gv with
      | none => rfl
      | some _ => rw [hl] at h; simp at h
    · exact noGv_mem h.2 hm

/-- the state behind it, with so many names. -/
def applyN (m : Nat) (s : St) (c : Rec) : St :=
  match s with
  | ⟨R, O, _, g, a, z⟩ => apply ⟨R, O, m, g, a, z⟩ c

theorem VL_T (hT : TabOK P T) {n : Nat} (m : Nat) {all rest : List Oper} {k : List It} {Q : Post} {t : Nat} {all' ops' : List Oper} {k' : List It} {s'' : St} {ps : List (Nat × Path × A)} {del new : List Nat} {add : List (Nat × Blk)} {R R1 : List (Nat × Path × A)} {O O1 : List (Nat × Blk)} {n0 n1 z z1 : Nat} {gv g1 : List (Nat × Path × Bool)} {as a1 : Path}
    (hg : ready all ⟨R, O, n0, gv, as, z⟩ o = true) (ht : Tl P o ⟨⟨R, O, m, gv, as, z⟩, ps, [], del, add, new⟩) (hn : (Nat.ble n0 m && allFresh n0 m new && noGv gv ps) = true) (hs1 : apply ⟨R, O, m, gv, as, z⟩ ⟨⟨R, O, m, gv, as, z⟩, ps, [], del, add, new⟩ = ⟨R1, O1, n1, g1, a1, z1⟩)
    (h : resume T n all rest k ⟨R1, O1, n1, g1, a1, z1⟩ = ⟨t, all', ops', k', s''⟩) (hv : VO P X ⟨t, all', ops', k', s''⟩ Q) : VL P X all (o :: rest) k ⟨R, O, n0, gv, as, z⟩ Q := by
  intro ρ M a W g
  simp only [Bool.and_eq_true] at hn
  have g1 := g.raise (Nat.le_of_ble_eq_true hn.1.1)
  refine wpList_do (ready_wanted g hg) (ht X ρ M _ a W _ _ g1 (SubS.self g1) (fun x hx => ?_) (fun x hx => noGv_mem hn.2 hx) fun ρ' M' a' W' _ g' => VL_go hT h hv ρ' M' a' W' (by rw [← hs1]; exact g'))
  have := allFresh_mem hn.1.2 hx
  exact ⟨g.fresh x this.1, this.2⟩

end Go.Cel

set_option linter.unusedVariables false
set_option linter.unusedSimpArgs false
namespace Go.Cel
variable {P : Program} {T : Nat → Ty} {X : CtxD} {ρ : Rho} {M : Imm} {r s s' : St} {a : Act} {W : World} {p : Path} {o : Oper} {v : A}

/-- does a part of a state know what a path asks for? -/
def pin (r : St) : Path → Bool
  | [] => true
  | (t, _) :: q => (match look t r.gv with | none => false | some _ => true) && pin r q
theorem pin_mem : ∀ {p : Path}, pin r p = true → ∀ t b, (t, b) ∈ p → look t r.gv ≠ none
  | [], _, _, _, h => by simp at h
  | (u, c) :: q, h, t, b, hm => by
    simp only [pin, Bool.and_eq_true] at h
    rcases List.mem_cons.1 hm with e | hm
    · cases e
      intro hl
      rw [hl] at h; simp at h
    · exact pin_mem h.2 t b hm

theorem Yl.of (hp : pin r p = true) (h : ∀ X ρ M a W, Gam P X ρ M r a W → holds r.gv p → Yields P ρ M a W o v) : Yl P o r p v := by
  intro X ρ M s a W K Q g hs hh hK
  have g' := g.sub hs
  obtain ⟨x, h1, h2⟩ := h X ρ M a W g' ((hs.holds (pin_mem hp)).2 hh)
  unfold Oper.wp
  rw [h1]
  exact hK M W x (Kept.refl W) (Imm.le.refl M) g h2

theorem Yl.ev (hT : TabOK P T) (hp : pin r p = true) (h : evP T r p o.op = some v) : Yl P o r p v := .of hp fun X ρ M a W g hh => evP_yields hT h g hh

theorem den_inv {x : D} {u : Value} (h : DenA P ρ M (dl x) u) : DenD P M x u := h

theorem kd_slice (hT : TabOK P T) {t e : Nat} (hk : (T t).kd = .slice e) : P.underlying t = some (.slice e) := by
  have h1 := (hT t (known_of hk rfl)).kd
  rwa [hk] at h1
theorem kd_str (hT : TabOK P T) {t : Nat} (hk : (T t).kd = .str) : P.underlying t = some .string := by
  have h1 := (hT t (known_of hk rfl)).kd
  rwa [hk] at h1

/-- The address of an element. -/
theorem yl_indexAddr (hT : TabOK P T) {t e : Nat} {x i : Operand} {es : List (List D)} {cs : List D} {k : IntKind} {z : Int} {n : Nat} (ho : o.op = .indexAddr t x i) (hk : (T t).kd = .slice e) (he : (T e).kd.known = true)
    (hx : ev r p x = some (dl (.seq e es))) (hi : ev r p i = some (dl (.int k z))) (hp : pin r p = true) (hn : z = (n : Int)) (hcs : es[n]? = some cs) : Yl P o r p (dl (.eptr cs)) := by
  refine .of hp fun X ρ M a W g hh => ?_
  have hd := den_inv (ev_den hx g hh)
  have hz := den_int (ev_den hi g hh)
  generalize hxe : a.eval x = xv at hd
  cases hd with
  | seq0 => simp at hcs
  | seq _ _ ad c f hc hcm hb hsz hcell hden =>
    have hlt : n < es.length := (List.getElem?_eq_some_iff.1 hcs).1
    refine ⟨.pointer (some (ad.add (n * P.cellsOf e))), ?_, ?_⟩
    · simp [execOp, ho, hxe, hz, hn, Instr.indexAt, asIntOf, run_underlying (kd_slice hT hk), hlt, (hT e he).run_size, (hT e he).size]
    · refine DenD.eptr cs _ (f n) (fun j y hj => ?_) (fun j y hj => hden n cs j y hcs hj)
      rw [Addr.add_add]
      exact hcell n cs j y hcs hj

theorem yl_indexAddrRow (hT : TabOK P T) {t e id : Nat} {x i : Operand} {es : List (List D)} {k : IntKind} {z : Int} {n : Nat} (ho : o.op = .indexAddr t x i) (hk : (T t).kd = .slice e) (he : (T e).kd.known = true)
    (hx : ev r p x = some (.b (.l (.orow id)))) (hi : ev r p i = some (dl (.int k z))) (hl : look id r.own = some (.row e es)) (hp : pin r p = true) (hn : z = (n : Int)) (hlt : n < es.length) : Yl P o r p (.b (.l (.optr id n 0 (T e).size))) := by
  refine .of hp fun X ρ M a W g hh => ?_
  obtain ⟨hr, A, m, c, hxe⟩ := ev_den hx g hh
  have hz := den_int (ev_den hi g hh)
  obtain ⟨u, xs, hu, how, _⟩ := g.own _ _ (look_mem hl)
  rw [hr] at hu; simp at hu; subst hu
  rcases how.2 with ⟨h2, h3⟩ | ⟨b, cap, cur, h2, _⟩
  · omega
  · refine ⟨.pointer (some ((⟨b, 0, none⟩ : Addr).add (n * (T e).size))), ?_, ?_⟩
    · simp [execOp, ho, h2, hz, hn, Instr.indexAt, asIntOf, run_underlying (kd_slice hT hk), hlt, (hT e he).run_size]
    · exact ⟨b, _, _, by rw [hr, h2], by simp [Addr.add_lit]⟩

/-- An octet of a string. -/
theorem yl_index (hT : TabOK P T) {t : Nat} {x i : Operand} {b : ByteArray} {k : IntKind} {z : Int} {n : Nat} {c : UInt8} (ho : o.op = .index t x i) (hk : (T t).kd = .str)
    (hx : ev r p x = some (dl (.str b))) (hi : ev r p i = some (dl (.int k z))) (hp : pin r p = true) (hn : z = (n : Int)) (hc : b[n]? = some c) : Yl P o r p (dl (.int .u8 (c.toNat : Int))) := by
  refine .of hp fun X ρ M a W g hh => ?_
  have hxe := den_str (ev_den hx g hh)
  have hz := den_int (ev_den hi g hh)
  refine ⟨.int .u8 c.toNat, ?_, .int _ _⟩
  simp [execOp, ho, hxe, hz, hn, Instr.index, asIntOf, run_underlying (kd_str hT hk), hc]

def optInt (r : St) (p : Path) : Option Operand → Option (Option Int)
  | none => some none
  | some x => match ev r p x with
    | some (.b (.l (.d (.int _ z)))) => some (some z)
    | _ => none
theorem optInt_den {x : Option Operand} {z : Option Int} (h : optInt r p x = some z) (g : Gam P X ρ M r a W) (hp : holds r.gv p) : ∃ k, x.map a.eval = z.map (Value.int k) := by
  cases x with
  | none => simp [optInt] at h; subst h; exact ⟨.i64, rfl⟩
  | some x =>
    simp only [optInt] at h
    split at h
    · rename_i k z' hx
      simp at h; subst h
      exact ⟨k, by simp [den_int (ev_den hx g hp)]⟩
    · simp at h

/-- A part of a string. -/
theorem yl_sliceStr (hT : TabOK P T) {t : Nat} {x : Operand} {lo hi : Option Operand} {b : ByteArray} {l h : Option Int} (i j : Nat) (ho : o.op = .slice t x lo hi none) (hk : (T t).kd = .str)
    (hx : ev r p x = some (dl (.str b))) (hlo : optInt r p lo = some l) (hhi : optInt r p hi = some h) (hp : pin r p = true) (hl : l.getD 0 = (i : Int)) (hh : h.getD (b.size : Int) = (j : Int)) (hij : i ≤ j) (hj : j ≤ b.size) : Yl P o r p (dl (.str (b.extract i j))) := by
  refine .of hp fun X ρ M a W g hho => ?_
  have hxe := den_str (ev_den hx g hho)
  obtain ⟨k1, e1⟩ := optInt_den hlo g hho
  obtain ⟨k2, e2⟩ := optInt_den hhi g hho
  refine ⟨.string (b.extract i j), ?_, .str _⟩
  have hstr := kd_str hT hk
  have run : (Instr.sliceBounds false b.size b.size (l.map (Value.int k1)) (h.map (Value.int k2)) none).run P W = .ok (i, j, b.size) W := by
    cases l <;> cases h <;> simp only [Option.getD_none, Option.getD_some] at hl hh
    · have h1 : i = 0 := by omega
      have h2 : j = b.size := by omega
      subst h1 h2
      simp [Instr.sliceBounds]
    · have h1 : i = 0 := by omega
      subst h1 hh
      simp [Instr.sliceBounds, run_sliceBound, hj]
    · have h2 : j = b.size := by omega
      subst h2 hl
      simp [Instr.sliceBounds, run_sliceBound, hij]
    · subst hl hh
      simp [Instr.sliceBounds, run_sliceBound, hij, hj]
  simp [execOp, ho, hxe, e1, e2, Instr.sliceAt, Instr.slice, run_underlying hstr, run]

/-- A part of a slice. -/
theorem yl_sliceSeq (hT : TabOK P T) {t e : Nat} {x : Operand} {lo hi : Option Operand} {es : List (List D)} {l h : Option Int} (i j : Nat) (ho : o.op = .slice t x lo hi none) (hk : (T t).kd = .slice e) (he : (T e).kd.known = true)
    (hx : ev r p x = some (dl (.seq e es))) (hlo : optInt r p lo = some l) (hhi : optInt r p hi = some h) (hp : pin r p = true) (hl : l.getD 0 = (i : Int)) (hh : h.getD (es.length : Int) = (j : Int)) (hij : i ≤ j) (hj : j ≤ es.length) : Yl P o r p (dl (.seq e ((es.take j).drop i))) := by
  refine .of hp fun X ρ M a W g hho => ?_
  have hd := den_inv (ev_den hx g hho)
  obtain ⟨k1, e1⟩ := optInt_den hlo g hho
  obtain ⟨k2, e2⟩ := optInt_den hhi g hho
  have hu := kd_slice hT hk
  have hel : P.elem t = e := by simp [Program.elem, hu]
  have hu' : P.underlying t = some (.slice (P.elem t)) := by rw [hel]; exact hu
  generalize hxe : a.eval x = xv at hd
  have run : ∀ (ad : Option Addr) (n c : Nat), xv = .slice ad n c → n = es.length → n ≤ c → (execOp a.eval o).run P W = .ok (.value (sliced ad i j c (T e).size)) W := by
    intro ad n c hxv hn hc
    subst hxv hn
    have hsz := (hT e he).run_size W
    cases l <;> cases h <;> simp at hl hh
    · have h1 : i = 0 := by omega
      have h2 : j = es.length := by omega
      subst h1 h2
      simp [execOp, ho, hxe, e1, e2, run_sliceAt_slice (h := hu'), run_slice_all W t ad es.length c hu', hel, hsz]
    · rename_i z
      subst hh
      have h1 : i = 0 := by omega
      subst h1
      simp [execOp, ho, hxe, e1, e2, run_sliceAt_slice (h := hu'), run_slice_h W t ad es.length c hu' k2 (j : Int) (by omega) (by omega), hel, hsz]
    · subst hl
      have h2 : j = es.length := by omega
      subst h2
      simp [execOp, ho, hxe, e1, e2, run_sliceAt_slice (h := hu'), run_slice_l W t ad es.length c hu' k1 (i : Int) (by omega) (by omega), hel, hsz]
    · subst hl hh
      simp [execOp, ho, hxe, e1, e2, run_sliceAt_slice (h := hu'), run_slice_lh W t ad es.length c hu' k1 k2 (i : Int) (j : Int) (by omega) (by omega) (by omega), hel, hsz]
  cases hd with
  | seq0 _ A c =>
    simp at hj
    have h2 : j = 0 := by omega
    have h3 : i = 0 := by omega
    subst h2 h3
    refine ⟨_, run _ _ _ rfl rfl (Nat.zero_le _), ?_⟩
    simp [sliced]
    exact .seq0 _ _ _
  | seq _ _ ad c f hc hcm hb hsz hcell hden =>
    refine ⟨_, run _ _ _ rfl rfl hc, ?_⟩
    by_cases eij : i = j
    · subst eij
      have : (es.take i).drop i = [] := by simp
      rw [this]
      simp only [sliced, Nat.sub_self]
      exact .seq0 _ _ _
    · have hne : c ≠ i := by omega
      have hlen : ((es.take j).drop i).length = j - i := by simp; omega
      have hget : ∀ n cs, ((es.take j).drop i)[n]? = some cs → es[i + n]? = some cs := by
        intro n cs hn
        rw [List.getElem?_drop, List.getElem?_take] at hn
        split at hn
        · exact hn
        · simp at hn
      simp only [sliced, hne, if_false, Option.map_some, ← hlen]
      refine DenD.seq _ _ _ _ (fun n => f (i + n)) (by omega) (by omega) ?_ (fun n cs hn => hsz _ cs (hget n cs hn)) (fun n cs m y hn hm => ?_) (fun n cs m y hn hm => hden _ cs m y (hget n cs hn) hm)
      · refine Nat.le_trans (Nat.mul_le_mul_right _ ?_) hb
        omega
      · have := hcell _ cs m y (hget n cs hn) hm
        rw [Addr.add_add, (hT e he).size.symm]
        rw [Nat.add_mul, Nat.add_assoc] at this
        exact this

/-- The cells of an element of a row of one's own. -/
theorem RowRep.at {sz : Nat} {es : List (List D)} {xs : List Value} (h : RowRep P M sz es xs) {i : Nat} {cs : List D} (hi : es[i]? = some cs) : All2 (DenD P M) cs ((xs.drop (i * sz)).take sz) := by
  obtain ⟨hl, hr⟩ := h
  have hlt : i < es.length := (List.getElem?_eq_some_iff.1 hi).1
  have hsz := (hr i cs hi).1
  have hle : i * sz + sz ≤ xs.length := by
    rw [hl, ← Nat.succ_mul]
    exact Nat.mul_le_mul_right _ hlt
  refine All2.of_get (by simp; omega) fun j x u hx hu => ?_
  obtain ⟨w, h1, h2⟩ := (hr i cs hi).2 j x hx
  rw [List.getElem?_take] at hu
  split at hu
  · rw [List.getElem?_drop, h1] at hu
    simp at hu; subst hu; exact h2
  · simp at hu

/-- A load out of a row of one's own. -/
theorem yl_loadRow (hT : TabOK P T) {t e id n off sz : Nat} {x : Operand} {es : List (List D)} {cs : List D} (ho : o.op = .load t x) (hkn : (T t).kd.known = true) (he : (T e).kd.known = true)
    (hx : ev r p x = some (.b (.l (.optr id n off sz)))) (hl : look id r.own = some (.row e es)) (hsz : Nat.beq sz (T e).size = true) (hp : pin r p = true) (hcs : es[n]? = some cs) (hv : readD (T t).kd.agg (T t).size (cs.drop off) = some v) : Yl P o r p v := by
  refine .of hp fun X ρ M a W g hh => ?_
  obtain ⟨b, m, c, hr, hxe⟩ := ev_den hx g hh
  obtain ⟨u, xs, hu, how, hrep, _⟩ := g.own _ _ (look_mem hl)
  rw [hr] at hu; simp at hu; subst hu
  have hlt : n < es.length := (List.getElem?_eq_some_iff.1 hcs).1
  have hs := Nat.eq_of_beq_eq_true hsz
  have hsize := (hT e he).size
  rcases how.2 with ⟨h2, h3⟩ | ⟨b', cap, cur, h2, _, hh', hcap, hmax, hcur, htake⟩
  · simp at h2
  · simp at h2
    obtain ⟨rfl, rfl, rfl⟩ := h2
    have hrow := All2_d (ρ := ρ) (hrep.at hcs)
    rw [hsize] at hrow htake hcur
    have ht := hT t hkn
    have hlen := All2.length hrow
    have hcell : ∀ (j : Nat) (u : Value), (((xs.drop (n * (T e).size)).take (T e).size).drop off)[j]? = some u → W.cell? ((⟨b, n * sz + off, none⟩ : Addr).add j) = some u := by
      intro j u hu
      rw [List.getElem?_drop, List.getElem?_take] at hu
      split at hu
      · rw [List.getElem?_drop, ← htake, List.getElem?_take] at hu
        split at hu
        · simp [World.cell?, Addr.add_lit, hh', hs]
          simpa [Nat.add_assoc] using hu
        · simp at hu
      · simp at hu
    have hr2 := run_load_at (W := W) ht hkn ⟨b, n * sz + off, none⟩
    rcases readD_some hv with ⟨ha, hlen', rfl⟩ | ⟨ha, y, hy, rfl⟩
    · have hl' : ((((xs.drop (n * (T e).size)).take (T e).size).drop off).take (T t).size).length = (T t).size := by
        simp at hlen hlen' ⊢; omega
      refine ⟨.agg ((((xs.drop (n * (T e).size)).take (T e).size).drop off).take (T t).size).toArray, ?_, _, rfl, ?_⟩
      · have := (hr2 ((((xs.drop (n * (T e).size)).take (T e).size).drop off).take (T t).size) (fun j u hu => hcell j u (by rw [List.getElem?_take] at hu; split at hu <;> first | exact hu | simp at hu))).1 ha hl'
        simp only [execOp, ho, hxe, Sem.run_bind, this, Result.andThen_ok, Sem.run_pure]
      · have := All2.take (T t).size (All2.drop off hrow)
        simpa [List.map_take, List.map_drop] using this
    · obtain ⟨z, hz, hd⟩ := All2.get (All2.drop off hrow) (a := L.d y) (i := 0) (by rw [← List.map_drop, List.getElem?_map, hy]; rfl)
      refine ⟨z, ?_, hd⟩
      have := (hr2 (((xs.drop (n * (T e).size)).take (T e).size).drop off) hcell).2 ha z (by simpa using hz)
      simp only [execOp, ho, hxe, Sem.run_bind, this, Result.andThen_ok, Sem.run_pure]

end Go.Cel
