/- CelS: regions whose order is drawn. -/
import Derived.Test.YtflmcnpfeikoeaaGreatDoorK05
set_option linter.unusedVariables false
set_option linter.unusedSimpArgs false
namespace Go.Cel
variable {P : Program} {T : Nat → Ty} {X : CtxD} {ρ : Rho} {M : Imm} {r s s' : St} {a : Act} {W : World} {p : Path} {o : Oper} {v : A}

/-- What an operation touches: slots read and written, blocks read and written, new names. -/
structure Sig where
  rs : List Nat
  ws : List Nat
  ro : List Nat
  wo : List Nat
  new : List Nat

structure Within (c : Rec) (σ : Sig) : Prop where
  rs : ∀ k y, look k c.r.regs = some y → k ∈ σ.rs
  rg : ∀ k y, look k c.r.gv = some y → k ∈ σ.rs
  ws : ∀ k ∈ keysN c.ps, k ∈ σ.ws
  gs : ∀ k ∈ keysN c.gs, k ∈ keysN c.ps
  ro : ∀ id b, (id, b) ∈ c.r.own → id ∈ σ.ro
  del : ∀ id ∈ c.del, id ∈ σ.wo
  add : ∀ id ∈ keysN c.add, id ∈ σ.wo
  new : ∀ id ∈ c.new, id ∈ σ.new
  asm : c.r.asm = []

def topN : Nat := 1000000

/-- An operation at its place. -/
def OpT (P : Program) (all : List Oper) (i : Nat) (c : Rec) : Prop :=
  ∀ X ρ M s a W (K : Act → World → Prop) (Q : Exit → Act → World → Prop), Gam P X ρ M s a W → SubS c.r s → (∀ n ∈ c.new, ρ n = none ∧ n < s.nx) → (∀ x ∈ c.ps, look x.1 s.gv = none) →
    (∀ ρ' M' a' W', (∀ n, ρ n = none → n ∉ c.new → ρ' n = none) → Gam P X ρ' M' (apply s c) a' W' → K a' W') → wpOp P all.toArray Q i K a W

theorem opT_T {all : List Oper} {i : Nat} {c : Rec} (hi : all[i]? = some o) (hg : o.guard = none) (h : Tl P o c) : OpT P all i c := by
  intro X ρ M s a W K Q g hs hf hps hK
  unfold wpOp
  simp only [List.getElem?_toArray, hi]
  rw [if_pos (by simp [Region.wanted, hg])]
  exact .inl (h X ρ M s a W K Q g hs hf hps hK)

theorem opT_Y {all : List Oper} {i : Nat} {gs : List (Nat × Path × Bool)} {ps : List (Nat × Path × A)} (hi : all[i]? = some o) (hp : pathOf all r o = some p) (h : Yl P o r p v)
    (hps : (∃ d, o.dst = some d ∧ ps = [(d, p, v)] ∧ Nat.blt d r.sz = true ∧ (gs = [] ∨ ∃ x, v = dl (.bool x) ∧ gs = [(d, p, x)])) ∨ (o.dst = none ∧ ps = [] ∧ gs = [])) : OpT P all i ⟨r, ps, gs, [], [], []⟩ := by
  intro X ρ M s a W K Q g hs hf hps' hK
  have gr := g.sub hs
  obtain ⟨hw, hkeys⟩ := pathOf_wanted gr hp
  have hh := hs.holds (p := p) hkeys
  have hkeys' : ∀ t b, (t, b) ∈ p → look t s.gv ≠ none := fun t b hm => by
    cases hl : look t r.gv with
    | none => exact absurd hl (hkeys t b hm)
    | some y => rw [hs.gv _ _ hl]; simp
  have fin : ∀ (M' : Imm) (W' : World) (x : Value), Gam P X ρ M' s a W' → (holds s.gv p → DenA P ρ M' v x) → (¬ holds s.gv p → x = Go.undef) → K (a.put o.dst x) W' := by
    intro M' W' x g' h1 h2
    refine hK ρ M' _ W' (fun n hn _ => hn) ?_
    rw [apply_eq]
    have hsame : remP [] s.own = s.own := by simp [remP, memN]
    rcases hps with ⟨d, hd, rfl, hz, hgs⟩ | ⟨hd, rfl, rfl⟩
    · have hg0 := hps' (d, p, v) (by simp)
      have hz' : Nat.blt d s.sz = true := by rw [← (hs.sz : r.sz = s.sz)]; exact hz
      rw [hd]
      rcases hgs with rfl | ⟨y, rfl, rfl⟩
      · have := g'.putS (d := some d) (s' := { s with regs := (d, p, v) :: s.regs }) (by obtain ⟨R, O, n, gv, m, z⟩ := s; simp only at hg0 hz'; simp [put, hg0, hz']) ⟨h1, h2⟩ hkeys'
        simpa [hsame] using this
      · have := g'.putGS (d := some d) (y := y) (s' := { s with regs := (d, p, dl (.bool y)) :: s.regs, gv := (d, p, y) :: s.gv }) (by obtain ⟨R, O, n, gv, m, z⟩ := s; simp only at hg0 hz'; simp [putG, hg0, hz']) ⟨fun q => den_bool (h1 q), h2⟩ hkeys'
        simpa [hsame] using this
    · rw [hd]
      simpa [hsame, Act.put] using g'
  unfold wpOp
  simp only [List.getElem?_toArray, hi]
  by_cases hx : holds s.gv p
  · rw [if_pos (hw.2 (hh.2 hx))]
    exact .inl (h X ρ M s a W K Q g hs hx fun M' W' x _ _ g' hd => fin M' W' x g' (fun _ => hd) fun q => absurd hx q)
  · rw [if_neg fun q => hx (hh.1 (hw.1 q))]
    exact fin M W Go.undef g (fun q => absurd q hx) fun _ => rfl

/-- A step in the text's order. -/
structure StepD (P : Program) (all : List Oper) (i : Nat) (s : St) (σ : Sig) (s1 : St) (c : Rec) : Prop where
  w : Within c σ
  op : OpT P all i c
  regs : ∀ k y, look k c.r.regs = some y → look k s.regs = some y
  gv : ∀ k y, look k c.r.gv = some y → look k s.gv = some y
  own : ∀ id b, (id, b) ∈ c.r.own → look id s.own = some b
  wfr : ∀ k p v, (k, p, v) ∈ c.r.regs → ∀ t b, (t, b) ∈ p → look t c.r.gv ≠ none
  wfg : ∀ k q x, (k, q, x) ∈ c.r.gv → ∀ t b, (t, b) ∈ q → look t c.r.gv ≠ none
  nx : c.r.nx = topN
  sz : c.r.sz = s.sz
  ps : ∀ x ∈ c.ps, look x.1 s.gv = none
  sregs : ∀ k, look k s1.regs = look k (apply s c).regs
  sgv : ∀ k, look k s1.gv = look k (apply s c).gv
  sown : ∀ id, look id s1.own = look id (apply s c).own
  ssz : s1.sz = s.sz

def ValidL (P : Program) (all : List Oper) : Nat → St → List Sig → St → Prop
  | _, s, [], s' => s = s'
  | i, s, σ :: r, s' => ∃ c s1, StepD P all i s σ s1 c ∧ ValidL P all (i + 1) s1 r s'

theorem ValidL.snoc {all : List Oper} {σ : Sig} {s1 : St} {c : Rec} : ∀ {l : List Sig} {i : Nat} {s0 s : St}, ValidL P all i s0 l s → StepD P all (i + l.length) s σ s1 c → ValidL P all i s0 (l ++ [σ]) s1
  | [], i, s0, s, h, hs => by
    simp [ValidL] at h; subst h
    exact ⟨c, s1, by simpa using hs, rfl⟩
  | x :: l, i, s0, s, ⟨c', s', h1, h2⟩, hs => ⟨c', s', h1, h2.snoc (by simpa [Nat.add_assoc, Nat.add_comm 1] using hs)⟩

/-! The states in the text's order. -/
theorem ValidL.states {all : List Oper} : ∀ {l : List Sig} {i : Nat} {s0 s1 : St}, ValidL P all i s0 l s1 →
    ∃ (st : Nat → St) (cs : Nat → Rec), st 0 = s0 ∧ st l.length = s1 ∧ ∀ n σ, l[n]? = some σ → StepD P all (i + n) (st n) σ (st (n + 1)) (cs n)
  | [], i, s0, s1, h => ⟨fun _ => s0, fun _ => ⟨s0, [], [], [], [], []⟩, rfl, h, by simp⟩
  | σ :: l, i, s0, s1, ⟨c, s', h1, h2⟩ => by
    obtain ⟨st, cs, q1, q2, q3⟩ := h2.states
    refine ⟨fun n => match n with | 0 => s0 | n + 1 => st n, fun n => match n with | 0 => c | n + 1 => cs n, rfl, by simpa using q2, fun n τ hn => ?_⟩
    cases n with
    | zero => simp at hn; subst hn; simpa [q1] using h1
    | succ n => simp at hn; simpa [Nat.add_assoc, Nat.add_comm 1] using q3 n τ hn

theorem look_app {α : Type} (k : Nat) : ∀ (l m : List (Nat × α)), look k (l ++ m) = match look k l with | some y => some y | none => look k m
  | [], m => by simp [look]
  | (j, u) :: r, m => by
    simp only [List.cons_append, look_cons]
    by_cases e : j = k
    · simp [e]
    · simp [e, look_app k r m]
theorem look_none {α : Type} {k : Nat} : ∀ {l : List (Nat × α)}, k ∉ keysN l → look k l = none
  | [], _ => rfl
  | (j, u) :: r, h => by
    simp only [keysN, List.mem_cons, not_or] at h
    rw [look_cons, if_neg (Ne.symm h.1)]
    exact look_none h.2
theorem look_some {α : Type} {k : Nat} : ∀ {l : List (Nat × α)}, k ∈ keysN l → ∃ y, look k l = some y
  | [], h => by simp [keysN] at h
  | (j, u) :: r, h => by
    rw [look_cons]
    by_cases e : j = k
    · exact ⟨u, by simp [e]⟩
    · simp only [keysN, List.mem_cons] at h
      rw [if_neg e]
      exact look_some (h.resolve_left (Ne.symm e))
theorem keysN_reverse {α : Type} {k : Nat} {l : List (Nat × α)} : k ∈ keysN l.reverse ↔ k ∈ keysN l := by
  rw [keysN_mem, keysN_mem]; simp
theorem look_remP {del : List Nat} {id : Nat} : ∀ {O : List (Nat × Blk)}, look id (remP del O) = if id ∈ del then none else look id O
  | [] => by simp [remP, look]
  | (j, b) :: r => by
    have ih := look_remP (del := del) (id := id) (O := r)
    unfold remP at ih ⊢
    rw [List.filter_cons]
    by_cases hj : j ∈ del
    · rw [if_neg (by simp [memN_mem.2 hj])]
      rw [ih, look_cons]
      by_cases e : j = id
      · subst e; simp [hj]
      · simp [e]
    · have hf : memN j del = false := by
        cases h : memN j del with
        | false => rfl
        | true => exact absurd (memN_mem.1 h) hj
      rw [if_pos (by simp [hf]), look_cons, look_cons, ih]
      by_cases e : j = id
      · subst e; simp [hj]
      · simp [e]

/-! What a step leaves. -/
theorem apply_regs_other {c : Rec} {k : Nat} (h : k ∉ keysN c.ps) : look k (apply s c).regs = look k s.regs := by
  rw [apply_eq]; simp only [look_app]
  rw [look_none (by rwa [keysN_reverse])]
theorem apply_regs_own {c : Rec} {k : Nat} (h : k ∈ keysN c.ps) : look k (apply s c).regs = look k (apply s' c).regs := by
  rw [apply_eq, apply_eq]; simp only [look_app]
  obtain ⟨y, hy⟩ := look_some (keysN_reverse.2 h)
  simp [hy]
theorem apply_gv_other {c : Rec} {k : Nat} (h : k ∉ keysN c.gs) : look k (apply s c).gv = look k s.gv := by
  rw [apply_eq]; simp only [look_app]
  rw [look_none (by rwa [keysN_reverse])]
theorem apply_gv_own {c : Rec} {k : Nat} (h : look k s.gv = none) (h' : look k s'.gv = none) : look k (apply s c).gv = look k (apply s' c).gv := by
  rw [apply_eq, apply_eq]; simp only [look_app, h, h']
theorem apply_own_other {c : Rec} {id : Nat} (h : id ∉ c.del) (h' : id ∉ keysN c.add) : look id (apply s c).own = look id s.own := by
  rw [apply_eq]; simp only [look_app]
  rw [look_none (by rwa [keysN_reverse])]
  simp [look_remP, h]
theorem apply_own_own {c : Rec} {id : Nat} (h : id ∈ c.del ∨ id ∈ keysN c.add) : look id (apply s c).own = look id (apply s' c).own := by
  rw [apply_eq, apply_eq]; simp only [look_app]
  by_cases hk : id ∈ keysN c.add
  · obtain ⟨y, hy⟩ := look_some (keysN_reverse.2 hk)
    simp [hy]
  · rw [look_none (by rwa [keysN_reverse])]
    simp [look_remP, h.resolve_right hk]

/-! The check. -/
def mskE (acc : List Nat) : List Edge → Nat → Nat
  | [], m => m
  | e :: r, m => bif Region.binds .any e then mskE acc r (m ||| 2 ^ e.on ||| acc.getD e.on 0) else mskE acc r m
def masks : List Oper → List Nat → List Nat
  | [], acc => acc
  | o :: r, acc => masks r (acc ++ [mskE acc o.after.toList 0])
def meets : List Nat → List Nat → Bool
  | [], _ => false
  | x :: r, l => memN x l || meets r l
def clash (a b : Sig) : Bool := meets a.ws b.rs || meets a.ws b.ws || meets a.rs b.ws || meets a.wo b.ro || meets a.wo b.wo || meets a.ro b.wo
def chkRow (m : Nat) (b : Sig) : List Sig → Nat → Bool
  | [], _ => true
  | a :: r, i => (!clash a b || m.testBit i) && chkRow m b r (i + 1)
def chkGo (ms : List Nat) : List Sig → List Sig → Nat → Bool
  | _, [], _ => true
  | done, b :: r, j => chkRow (ms.getD j 0) b done 0 && chkGo ms (done ++ [b]) r (j + 1)
def chkBack : List Oper → Nat → Bool
  | [], _ => true
  | o :: r, i => (o.after.toList.all fun e => !Region.binds .any e || Nat.blt e.on i) && chkBack r (i + 1)
def newsOf : List Sig → List Nat
  | [] => []
  | σ :: r => σ.new ++ newsOf r
def checkAll (all : List Oper) (l : List Sig) : Bool := chkGo (masks all []) [] l 0 && chkBack all 0 && Nat.beq l.length all.length && distinct (newsOf l)

theorem mskE_bit {acc : List Nat} {i : Nat} : ∀ {es : List Edge} {m : Nat}, (mskE acc es m).testBit i = true → m.testBit i = true ∨ ∃ e ∈ es, Region.binds .any e = true ∧ (i = e.on ∨ (acc.getD e.on 0).testBit i = true)
  | [], m, h => .inl (by simpa [mskE] using h)
  | e :: r, m, h => by
    simp only [mskE] at h
    cases hb : Region.binds .any e with
    | false =>
      simp only [hb, cond_false] at h
      rcases mskE_bit h with h | ⟨e', h1, h2⟩
      · exact .inl h
      · exact .inr ⟨e', List.mem_cons_of_mem _ h1, h2⟩
    | true =>
      simp only [hb, cond_true] at h
      rcases mskE_bit h with h | ⟨e', h1, h2⟩
      · simp only [Nat.testBit_or, Nat.testBit_two_pow, Bool.or_eq_true, decide_eq_true_eq] at h
        rcases h with (h | h) | h
        · exact .inl h
        · exact .inr ⟨e, List.mem_cons_self, hb, .inl h.symm⟩
        · exact .inr ⟨e, List.mem_cons_self, hb, .inr h⟩
      · exact .inr ⟨e', List.mem_cons_of_mem _ h1, h2⟩

/-- what stands before. -/
def Pre (all : List Oper) (S : Nat → Prop) (j : Nat) : Prop := ∀ o, all[j]? = some o → ∀ e ∈ o.after, Region.binds .any e = true → S e.on

theorem masks_good {all : List Oper} {S : Nat → Prop} (hS : ∀ j, S j → Pre all S j) : ∀ {l done : List Oper} {acc : List Nat}, all = done ++ l → acc.length = done.length → (∀ j i, (acc.getD j 0).testBit i = true → Pre all S j → S i) →
    ∀ j i, ((masks l acc).getD j 0).testBit i = true → Pre all S j → S i
  | [], done, acc, h, hl, hg => by simpa [masks] using hg
  | o :: r, done, acc, h, hl, hg => by
    simp only [masks]
    refine masks_good hS (done := done ++ [o]) (by simp [h]) (by simp [hl]) fun j i hb hp => ?_
    rcases Nat.lt_trichotomy j acc.length with hj | hj | hj
    · refine hg j i ?_ hp
      rw [List.getD_eq_getElem?_getD, List.getElem?_append_left hj] at hb
      rw [List.getD_eq_getElem?_getD]; exact hb
    · subst hj
      rw [List.getD_eq_getElem?_getD, List.getElem?_append_right (Nat.le_refl _)] at hb
      simp at hb
      have ho : all[acc.length]? = some o := by rw [h, hl, List.getElem?_append_right (Nat.le_refl _)]; simp
      rcases mskE_bit hb with h0 | ⟨e, h1, h2, h3⟩
      · simp at h0
      · have hon : S e.on := hp o ho e (by simpa using h1) h2
        rcases h3 with rfl | h3
        · exact hon
        · exact hg e.on i (by rw [List.getD_eq_getElem?_getD]; simpa using h3) (hS _ hon)
    · rw [List.getD_eq_getElem?_getD, List.getElem?_eq_none (by simp; omega)] at hb
      simp at hb

theorem meets_mem {l : List Nat} : ∀ {m : List Nat}, meets m l = true ↔ ∃ x, x ∈ m ∧ x ∈ l
  | [] => by simp [meets]
  | y :: r => by
    simp only [meets, Bool.or_eq_true, memN_mem, meets_mem (m := r), List.mem_cons]
    constructor
    · rintro (h | ⟨x, h1, h2⟩)
      · exact ⟨y, .inl rfl, h⟩
      · exact ⟨x, .inr h1, h2⟩
    · rintro ⟨x, h1 | h1, h2⟩
      · subst h1; exact .inl h2
      · exact .inr ⟨x, h1, h2⟩

theorem chkRow_some {m : Nat} {b : Sig} : ∀ {l : List Sig} {i0 : Nat}, chkRow m b l i0 = true → ∀ n a, l[n]? = some a → clash a b = true → m.testBit (i0 + n) = true
  | [], _, _, n, a, h, _ => by simp at h
  | x :: r, i0, h, n, a, hn, hc => by
    simp only [chkRow, Bool.and_eq_true, Bool.or_eq_true, Bool.not_eq_true'] at h
    cases n with
    | zero =>
      simp at hn; subst hn
      rcases h.1 with h1 | h1
      · rw [hc] at h1; cases h1
      · exact h1
    | succ n =>
      have := chkRow_some h.2 n a (by simpa using hn) hc
      rw [show i0 + (n + 1) = i0 + 1 + n by omega]; exact this
theorem chkGo_some {ms : List Nat} : ∀ {l done : List Sig} {j : Nat}, j = done.length → chkGo ms done l j = true → ∀ i k a b, i < k → (done ++ l)[i]? = some a → (done ++ l)[k]? = some b → done.length ≤ k → clash a b = true → (ms.getD k 0).testBit i = true
  | [], done, j, hj, h, i, k, a, b, hik, ha, hb, hk, hc => by
    simp at hb
    have := (List.getElem?_eq_some_iff.1 hb).1
    omega
  | x :: r, done, j, hj, h, i, k, a, b, hik, ha, hb, hk, hc => by
    simp only [chkGo, Bool.and_eq_true] at h
    rcases Nat.lt_or_eq_of_le hk with hlt | heq
    · exact chkGo_some (by simp [hj]) h.2 i k a b hik (by simpa using ha) (by simpa using hb) (by simp; omega) hc
    · subst heq
      rw [List.getElem?_append_right (Nat.le_refl _)] at hb
      simp at hb; subst hb
      rw [List.getElem?_append_left hik] at ha
      have := chkRow_some h.1 i a ha hc
      rw [hj] at this; simpa using this

theorem chkBack_some {l : List Oper} : ∀ {i0 : Nat}, chkBack l i0 = true → ∀ n o, l[n]? = some o → ∀ e ∈ o.after, Region.binds .any e = true → e.on < i0 + n := by
  induction l with
  | nil => intro i0 h n o hn; simp at hn
  | cons x r ih =>
    intro i0 h n o hn e he hb
    simp only [chkBack, Bool.and_eq_true] at h
    cases n with
    | zero =>
      simp at hn; subst hn
      have := List.all_eq_true.1 h.1 e (by simpa using he)
      simp [hb] at this
      simpa using this
    | succ n =>
      have := ih h.2 n o (by simpa using hn) e he hb
      omega

theorem newsOf_mem {n : Nat} : ∀ {l : List Sig}, n ∈ newsOf l ↔ ∃ (j : Nat) (σ : Sig), l[j]? = some σ ∧ n ∈ σ.new
  | [] => by simp [newsOf]
  | x :: r => by
    simp only [newsOf, List.mem_append, newsOf_mem (l := r)]
    constructor
    · rintro (h | ⟨j, σ, h1, h2⟩)
      · exact ⟨0, x, rfl, h⟩
      · exact ⟨j + 1, σ, by simpa using h1, h2⟩
    · rintro ⟨j, σ, h1, h2⟩
      cases j with
      | zero => simp at h1; subst h1; exact .inl h2
      | succ j => exact .inr ⟨j, σ, by simpa using h1, h2⟩
theorem distinct_app {l m : List Nat} (h : distinct (l ++ m) = true) : distinct m = true ∧ ∀ x, x ∈ l → x ∉ m := by
  induction l with
  | nil => exact ⟨by simpa using h, by simp⟩
  | cons y r ih =>
    simp only [List.cons_append, distinct, Bool.and_eq_true] at h
    obtain ⟨h1, h2⟩ := ih h.2
    refine ⟨h1, fun x hx => ?_⟩
    rcases List.mem_cons.1 hx with rfl | hx
    · exact fun hm => notIn_not h.1 (List.mem_append_right _ hm)
    · exact h2 x hx
theorem newsOf_apart {n : Nat} : ∀ {l : List Sig}, distinct (newsOf l) = true → ∀ (i j : Nat) (σ τ : Sig), l[i]? = some σ → l[j]? = some τ → n ∈ σ.new → n ∈ τ.new → i = j
  | [], _, i, j, σ, τ, h, _, _, _ => by simp at h
  | x :: r, hd, i, j, σ, τ, hi, hj, h, h' => by
    simp only [newsOf] at hd
    obtain ⟨h1, h2⟩ := distinct_app hd
    cases i with
    | zero =>
      simp at hi; subst hi
      cases j with
      | zero => rfl
      | succ j => exact absurd (newsOf_mem.2 ⟨j, τ, by simpa using hj, h'⟩) (h2 n h)
    | succ i =>
      cases j with
      | zero =>
        simp at hj; subst hj
        exact absurd (newsOf_mem.2 ⟨i, σ, by simpa using hi, h⟩) (h2 n h')
      | succ j => rw [newsOf_apart h1 i j σ τ (by simpa using hi) (by simpa using hj) h h']

theorem Gam.drew (g : Gam P X ρ M s a W) (n : Nat) : Gam P X ρ M s a { W with drawn := n } :=
  ⟨⟨g.os, g.tape, g.output, g.size, g.old, g.imm, g.mono, g.newM, g.rle, g.nle, g.rfr, g.fresh, fun id b h => by
    have := g.own id b h
    cases b <;> exact this, g.mine, g.dist⟩, g.regs, g.wfr, g.gv, g.wfg, g.asm, g.defers, g.sz⟩

def notDone (N : Nat) (f : Nat → Bool) : Nat := (List.range N).countP fun j => !f j
theorem countP_le {α : Type} {p q : α → Bool} : ∀ {l : List α}, (∀ x ∈ l, p x = true → q x = true) → l.countP p ≤ l.countP q
  | [], _ => Nat.le_refl _
  | x :: r, h => by
    have ih := countP_le (l := r) fun y hy => h y (List.mem_cons_of_mem _ hy)
    have hx := h x List.mem_cons_self
    rw [List.countP_cons, List.countP_cons]
    cases hp : p x <;> cases hq : q x <;> simp_all <;> omega
theorem countP_lt {α : Type} {p q : α → Bool} {y : α} : ∀ {l : List α}, (∀ x ∈ l, p x = true → q x = true) → y ∈ l → q y = true → p y = false → l.countP p < l.countP q
  | [], _, h, _, _ => by simp at h
  | x :: r, h, hy, h1, h2 => by
    rw [List.countP_cons, List.countP_cons]
    rcases List.mem_cons.1 hy with e | hy
    · subst e
      have ih := countP_le (l := r) fun z hz => h z (List.mem_cons_of_mem _ hz)
      simp [h1, h2]; omega
    · have ih := countP_lt (fun z hz => h z (List.mem_cons_of_mem _ hz)) hy h1 h2
      have hx := h x List.mem_cons_self
      cases hp : p x <;> cases hq : q x <;> simp_all <;> omega

/-- A REGION WHOSE ORDER IS DRAWN does what it does in the text's order. -/
theorem draw_sound (hm : P.follows .mixedOrders = true) {all : List Oper} {l : List Sig} {s0 s1 : St} {id0 : Nat} {k : List It} {Q : Post} (hv : ValidL P all 0 s0 l s1) (hck : checkAll all l = true) {nx1 : Nat}
    (hn : (allGe s0.nx (newsOf l) && allLt nx1 (newsOf l) && Nat.ble s0.nx nx1 && Nat.ble nx1 topN && distinct (keysN s1.own)) = true) (hasm : s0.asm = []) (h : V P X k ⟨cleanP [] s1.regs, s1.own, nx1, [], [], s0.sz⟩ Q) : V P X (.c (.region id0 all.toArray true) :: k) s0 Q := by
  intro ρ0 M0 a0 W0 g0
  simp only [konts]
  refine wp_region_any hm ?_
  obtain ⟨st, cs, hst0, hst1, hstep⟩ := hv.states
  simp only [checkAll, Bool.and_eq_true] at hck hn
  obtain ⟨⟨⟨hgo, hback⟩, hlen⟩, hdist⟩ := hck
  obtain ⟨⟨⟨⟨hge, hltn⟩, hnx1⟩, hnx2⟩, hdk⟩ := hn
  have hnx1 := Nat.le_of_ble_eq_true hnx1
  have hnx2 := Nat.le_of_ble_eq_true hnx2
  have hN := Nat.eq_of_beq_eq_true hlen
  have hgetl : ∀ i, i < all.length → ∃ σ, l[i]? = some σ := fun i hi => ⟨l[i]'(by omega), List.getElem?_eq_getElem (by omega)⟩
  -- writers
  let Wk : Nat → Nat → Prop := fun k j => ∃ σ, l[j]? = some σ ∧ k ∈ σ.ws
  let Wo : Nat → Nat → Prop := fun id j => ∃ σ, l[j]? = some σ ∧ id ∈ σ.wo
  have hconstk1 : ∀ k n σ, l[n]? = some σ → k ∉ σ.ws → look k (st n).regs = look k (st (n + 1)).regs ∧ look k (st n).gv = look k (st (n + 1)).gv := fun k n σ hσ hk => by
    have d := hstep n σ hσ
    have h1 : k ∉ keysN (cs n).ps := fun hh => hk (d.w.ws k hh)
    exact ⟨by rw [d.sregs, apply_regs_other h1], by rw [d.sgv, apply_gv_other fun hh => h1 (d.w.gs k hh)]⟩
  have hconsto1 : ∀ id n σ, l[n]? = some σ → id ∉ σ.wo → look id (st n).own = look id (st (n + 1)).own := fun id n σ hσ hk => by
    have d := hstep n σ hσ
    rw [d.sown, apply_own_other (fun hh => hk (d.w.del id hh)) fun hh => hk (d.w.add id hh)]
  have hconstk : ∀ k m n, n + m ≤ l.length → (∀ j, n ≤ j → j < n + m → ¬ Wk k j) → look k (st n).regs = look k (st (n + m)).regs ∧ look k (st n).gv = look k (st (n + m)).gv := fun k m => by
    induction m with
    | zero => intro n _ _; exact ⟨rfl, rfl⟩
    | succ m ih =>
      intro n hle hno
      obtain ⟨h1, h2⟩ := ih n (by omega) fun j h3 h4 => hno j h3 (by omega)
      obtain ⟨σ, hσ⟩ := hgetl (n + m) (by omega)
      obtain ⟨h3, h4⟩ := hconstk1 k (n + m) σ hσ fun hk => hno (n + m) (by omega) (by omega) ⟨σ, hσ, hk⟩
      exact ⟨h1.trans h3, h2.trans h4⟩
  have hconsto : ∀ id m n, n + m ≤ l.length → (∀ j, n ≤ j → j < n + m → ¬ Wo id j) → look id (st n).own = look id (st (n + m)).own := fun id m => by
    induction m with
    | zero => intro n _ _; rfl
    | succ m ih =>
      intro n hle hno
      have h1 := ih n (by omega) fun j h3 h4 => hno j h3 (by omega)
      obtain ⟨σ, hσ⟩ := hgetl (n + m) (by omega)
      exact h1.trans (hconsto1 id (n + m) σ hσ fun hk => hno (n + m) (by omega) (by omega) ⟨σ, hσ, hk⟩)
  -- the invariant
  let S : Array Bool → Nat → Prop := fun listed j => listed.getD j false = true
  let Inv : Array Bool → Act → World → Prop := fun listed a w => listed.size = all.length ∧ (∀ j, S listed j → Pre all (S listed) j) ∧
    ∃ ρ M s', Gam P X ρ M s' a w ∧ s'.nx = topN ∧ s'.asm = [] ∧ s'.sz = s0.sz ∧
      (∀ k, ∃ n, n ≤ l.length ∧ (∀ j, Wk k j → (S listed j ↔ j < n)) ∧ look k s'.regs = look k (st n).regs ∧ look k s'.gv = look k (st n).gv) ∧
      (∀ id, ∃ n, n ≤ l.length ∧ (∀ j, Wo id j → (S listed j ↔ j < n)) ∧ look id s'.own = look id (st n).own) ∧
      (∀ j σ, l[j]? = some σ → ¬ S listed j → ∀ n ∈ σ.new, ρ n = none) ∧ (∀ n, nx1 ≤ n → ρ n = none)
  have hsz : ∀ n, n ≤ l.length → (st n).sz = s0.sz := fun n => by
    induction n with
    | zero => intro _; rw [hst0]
    | succ n ih =>
      intro hle
      obtain ⟨σ, hσ⟩ := hgetl n (by omega)
      rw [(hstep n σ hσ).ssz]; exact ih (by omega)
  -- what is done when nothing is ready
  have hfull : ∀ listed a w, Inv listed a w → Region.ready .any all.toArray listed = [] → ∀ j, j < all.length → S listed j := fun listed a w hI hr j => by
    induction j using Nat.strongRecOn with
    | ind j ih =>
      intro hj
      by_cases hS : listed.getD j false = true
      · exact hS
      · exfalso
        have hjr : j ∈ Region.ready .any all.toArray listed := by
          rw [mem_ready]
          refine ⟨?_, all[j]'hj, by simp [hj], fun e he hb => ?_⟩
          · have : j < listed.size := by rw [hI.1]; exact hj
            simp [this] at hS ⊢; exact hS
          · have := chkBack_some hback j (all[j]'hj) (List.getElem?_eq_getElem hj) e he hb
            exact ih e.on (by omega) (by omega)
        rw [hr] at hjr; simp at hjr
  have hend : ∀ listed a w, Inv listed a w → Region.ready .any all.toArray listed = [] → (Exit.then (konts P X (lift P X Q) k).1 (konts P X (lift P X Q) k).2) .normal a w := fun listed a w hI hr => by
    have hall := hfull listed a w hI hr
    obtain ⟨_, _, ρ, M, s', g, h1, h2, h3, h4, h5, h6, h7⟩ := hI
    have hW : ∀ k j, Wk k j → j < l.length := fun k j ⟨σ, hσ, _⟩ => (List.getElem?_eq_some_iff.1 hσ).1
    have hWo : ∀ k j, Wo k j → j < l.length := fun k j ⟨σ, hσ, _⟩ => (List.getElem?_eq_some_iff.1 hσ).1
    have hk1 : ∀ k, look k s'.regs = look k s1.regs := fun k => by
      obtain ⟨n, hn1, hn2, hn3, _⟩ := h4 k
      rw [hn3, ← hst1]
      have := (hconstk k (l.length - n) n (by omega) fun j h8 h9 hw => by
        have := (hn2 j hw).1 (hall j (by have := hW k j hw; omega)); omega).1
      rw [this, show n + (l.length - n) = l.length by omega]
    have hk2 : ∀ id, look id s'.own = look id s1.own := fun id => by
      obtain ⟨n, hn1, hn2, hn3⟩ := h5 id
      rw [hn3, ← hst1]
      have := hconsto id (l.length - n) n (by omega) fun j h8 h9 hw => by
        have := (hn2 j hw).1 (hall j (by have := hWo id j hw; omega)); omega
      rw [this, show n + (l.length - n) = l.length by omega]
    have g1 : Gam P X ρ M { s' with nx := nx1 } a w := ⟨⟨g.os, g.tape, g.output, g.size, g.old, g.imm, g.mono, g.newM, g.rle, Nat.le_trans g0.nle hnx1, g.rfr, fun id hid => h7 id hid, g.own, g.mine, g.dist⟩, g.regs, g.wfr, g.gv, g.wfg, g.asm, g.defers, g.sz⟩
    refine h ρ M a w (g1.sub ⟨fun k y hk => ?_, fun k y hk => by simp [look] at hk, fun id b hib => ?_, fun t b hm' => by simp at hm', fun k p v hm' t b htb => ?_, fun k q x hm' => by simp at hm', Nat.le_refl _, h3.symm⟩)
    · obtain ⟨p, v⟩ := y
      obtain ⟨rfl, _, h8⟩ := cleanP_look hk
      show look k s'.regs = some ([], v)
      rw [hk1]; exact h8
    · have : look id s1.own = some b := by
        obtain ⟨y, hy⟩ := look_some (keysN_mem.2 ⟨b, hib⟩)
        rw [hy, distinct_keys hdk (look_mem hy) hib]
      exact look_mem (by show look id s'.own = some b; rw [hk2]; exact this)
    · have : ∀ {l : List (Nat × Path × A)} {bad : List (Nat × Unit)}, (k, p, v) ∈ cleanP bad l → p = [] := by
        intro l
        induction l with
        | nil => intro bad h; simp [cleanP] at h
        | cons e r ih =>
          obtain ⟨d, q, u⟩ := e
          intro bad h
          cases q with
          | nil =>
            simp only [cleanP] at h
            cases hb : look d bad with
            | none =>
              simp only [hb] at h
              rcases List.mem_cons.1 h with e | h
              · cases e; rfl
              · exact ih h
            | some _ => simp only [hb] at h; exact ih h
          | cons _ _ => simp only [cleanP] at h; exact ih h
      rw [this hm'] at htb; simp at htb
  -- a step
  have hgo' : ∀ listed a w, Inv listed a w → ∀ i ∈ Region.ready .any all.toArray listed, ∀ K : Act → World → Prop, (∀ a' w', Inv (listed.setIfInBounds i true) a' w' → K a' w') → wpOp P all.toArray (Exit.then (konts P X (lift P X Q) k).1 (konts P X (lift P X Q) k).2) i K a w := fun listed a w hI i hi K hK => by
    obtain ⟨hsize, hcl, ρ, M, s', g, h1, h2, h3, h4, h5, h6, h7⟩ := hI
    obtain ⟨hun, o, ho, hpre⟩ := mem_ready.1 hi
    simp only [List.getElem?_toArray] at ho
    have hilt : i < all.length := (List.getElem?_eq_some_iff.1 ho).1
    obtain ⟨σ, hσ⟩ := hgetl i hilt
    have d := hstep i σ hσ
    rw [Nat.zero_add] at d
    have hnS : ¬ S listed i := fun hs => by
      have : i < listed.size := by rw [hsize]; exact hilt
      simp [S, this] at hs hun; rw [hs] at hun; simp at hun
    have hprei : Pre all (S listed) i := fun o' ho' e he hb => by rw [ho] at ho'; cases ho'; exact hpre e he hb
    have hmask : ∀ j i', ((masks all []).getD j 0).testBit i' = true → Pre all (S listed) j → S listed i' := masks_good (S := S listed) hcl (l := all) (done := []) (acc := []) rfl rfl (fun j i' hb _ => by simp at hb)
    -- whoever clashes stands where the text has it
    have hord : ∀ j τ, l[j]? = some τ → (clash τ σ = true ∨ j = i) → (j < i → clash τ σ = true) → (i < j → clash σ τ = true) → (S listed j ↔ j < i) := fun j τ hτ _ ha hb => by
      rcases Nat.lt_trichotomy j i with hlt | heq | hgt
      · have := chkGo_some (done := []) rfl hgo j i τ σ hlt (by simpa using hτ) (by simpa using hσ) (Nat.zero_le _) (ha hlt)
        exact ⟨fun _ => hlt, fun _ => hmask i j this hprei⟩
      · subst heq; exact ⟨fun q => absurd q hnS, fun q => absurd q (Nat.lt_irrefl _)⟩
      · have := chkGo_some (done := []) rfl hgo i j σ τ hgt (by simpa using hσ) (by simpa using hτ) (Nat.zero_le _) (hb hgt)
        exact ⟨fun q => absurd (hmask j i this (hcl j q)) hnS, fun q => absurd q (by omega)⟩
    have clash_symm : ∀ σ τ : Sig, clash σ τ = true → clash τ σ = true := fun σ τ h => by
      simp only [clash, Bool.or_eq_true, meets_mem] at h ⊢
      rcases h with ((((⟨x, a1, a2⟩ | ⟨x, a1, a2⟩) | ⟨x, a1, a2⟩) | ⟨x, a1, a2⟩) | ⟨x, a1, a2⟩) | ⟨x, a1, a2⟩
      · exact .inl (.inl (.inl (.inr ⟨x, a2, a1⟩)))
      · exact .inl (.inl (.inl (.inl (.inr ⟨x, a2, a1⟩))))
      · exact .inl (.inl (.inl (.inl (.inl ⟨x, a2, a1⟩))))
      · exact .inr ⟨x, a2, a1⟩
      · exact .inl (.inr ⟨x, a2, a1⟩)
      · exact .inl (.inl (.inr ⟨x, a2, a1⟩))
    have hordk : ∀ k, k ∈ σ.rs ∨ k ∈ σ.ws → ∀ j, Wk k j → (S listed j ↔ j < i) := fun k hk j ⟨τ, hτ, hkτ⟩ => by
      have hc : clash τ σ = true := by
        simp only [clash, Bool.or_eq_true, meets_mem]
        rcases hk with hk | hk
        · exact .inl (.inl (.inl (.inl (.inl ⟨k, hkτ, hk⟩))))
        · exact .inl (.inl (.inl (.inl (.inr ⟨k, hkτ, hk⟩))))
      exact hord j τ hτ (.inl hc) (fun _ => hc) fun _ => clash_symm _ _ hc
    have hordo : ∀ k, k ∈ σ.ro ∨ k ∈ σ.wo → ∀ j, Wo k j → (S listed j ↔ j < i) := fun k hk j ⟨τ, hτ, hkτ⟩ => by
      have hc : clash τ σ = true := by
        simp only [clash, Bool.or_eq_true, meets_mem]
        rcases hk with hk | hk
        · exact .inl (.inl (.inr ⟨k, hkτ, hk⟩))
        · exact .inl (.inr ⟨k, hkτ, hk⟩)
      exact hord j τ hτ (.inl hc) (fun _ => hc) fun _ => clash_symm _ _ hc
    have hatk : ∀ k, k ∈ σ.rs ∨ k ∈ σ.ws → look k s'.regs = look k (st i).regs ∧ look k s'.gv = look k (st i).gv := fun k hk => by
      obtain ⟨n, hn1, hn2, hn3, hn4⟩ := h4 k
      have hw := hordk k hk
      rcases Nat.le_total n i with hle | hle
      · have := hconstk k (i - n) n (by omega) fun j h8 h9 hj => by
          have := (hn2 j hj).1 ((hw j hj).2 (by omega)); omega
        rw [show n + (i - n) = i by omega] at this
        exact ⟨hn3.trans this.1, hn4.trans this.2⟩
      · have := hconstk k (n - i) i (by omega) fun j h8 h9 hj => by
          have := (hw j hj).1 ((hn2 j hj).2 (by omega)); omega
        rw [show i + (n - i) = n by omega] at this
        exact ⟨hn3.trans this.1.symm, hn4.trans this.2.symm⟩
    have hato : ∀ k, k ∈ σ.ro ∨ k ∈ σ.wo → look k s'.own = look k (st i).own := fun k hk => by
      obtain ⟨n, hn1, hn2, hn3⟩ := h5 k
      have hw := hordo k hk
      rcases Nat.le_total n i with hle | hle
      · have := hconsto k (i - n) n (by omega) fun j h8 h9 hj => by
          have := (hn2 j hj).1 ((hw j hj).2 (by omega)); omega
        rw [show n + (i - n) = i by omega] at this
        exact hn3.trans this
      · have := hconsto k (n - i) i (by omega) fun j h8 h9 hj => by
          have := (hw j hj).1 ((hn2 j hj).2 (by omega)); omega
        rw [show i + (n - i) = n by omega] at this
        exact hn3.trans this.symm
    have hsub : SubS (cs i).r s' := by
      refine ⟨fun k y hk => ?_, fun k y hk => ?_, fun id b hib => ?_, fun t b hm' => by rw [d.w.asm] at hm'; simp at hm', d.wfr, d.wfg, by rw [h1, d.nx]; exact Nat.le_refl _, by rw [d.sz, hsz i (by omega), h3]⟩
      · rw [(hatk k (.inl (d.w.rs k y hk))).1]; exact d.regs k y hk
      · rw [(hatk k (.inl (d.w.rg k y hk))).2]; exact d.gv k y hk
      · exact look_mem (by rw [hato id (.inl (d.w.ro id b hib))]; exact d.own id b hib)
    have hps : ∀ x ∈ (cs i).ps, look x.1 s'.gv = none := fun x hx => by
      have : x.1 ∈ σ.ws := d.w.ws _ (keysN_mem.2 ⟨x.2, hx⟩)
      rw [(hatk x.1 (.inr this)).2]; exact d.ps x hx
    have hnews : ∀ n ∈ σ.new, s0.nx ≤ n ∧ n < nx1 := fun n hn => ⟨allGe_mem hge (newsOf_mem.2 ⟨i, σ, hσ, hn⟩), allLt_mem hltn (newsOf_mem.2 ⟨i, σ, hσ, hn⟩)⟩
    refine d.op X ρ M s' a w K _ g hsub (fun n hn => ⟨h6 i σ hσ hnS n (d.w.new n hn), by have := (hnews n (d.w.new n hn)).2; omega⟩) hps fun ρ' M' a' w' hkeep g' => hK a' w' ?_
    have hS' : ∀ j, S (listed.setIfInBounds i true) j ↔ (S listed j ∨ j = i) := fun j => by
      simp only [S]
      by_cases e : i = j
      · subst e
        have : i < listed.size := by rw [hsize]; exact hilt
        simp [this]
      · rw [getD_set_ne false e]
        constructor
        · exact .inl
        · rintro (h | h)
          · exact h
          · exact absurd h.symm e
    refine ⟨by simp [hsize], fun j hj => ?_, ρ', M', _, g', by rw [apply_eq]; exact h1, by rw [apply_eq]; exact h2, by rw [apply_eq]; exact h3, fun k => ?_, fun id => ?_, fun j τ hτ hj n hn => ?_, fun n hn => ?_⟩
    · intro o' ho' e he hb
      rcases (hS' j).1 hj with hj | rfl
      · exact (hS' _).2 (.inl (hcl j hj o' ho' e he hb))
      · exact (hS' _).2 (.inl (hprei o' ho' e he hb))
    · by_cases hk : k ∈ σ.ws
      · refine ⟨i + 1, by omega, fun j hj => ?_, ?_, ?_⟩
        · rw [hS', hordk k (.inr hk) j hj]; omega
        · rw [d.sregs]
          by_cases hk' : k ∈ keysN (cs i).ps
          · exact apply_regs_own hk'
          · rw [apply_regs_other hk', apply_regs_other hk']; exact (hatk k (.inr hk)).1
        · rw [d.sgv]
          by_cases hk' : k ∈ keysN (cs i).ps
          · obtain ⟨y, hy⟩ := keysN_mem.1 hk'
            exact apply_gv_own (hps _ hy) (d.ps _ hy)
          · rw [apply_gv_other fun hh => hk' (d.w.gs k hh), apply_gv_other fun hh => hk' (d.w.gs k hh)]; exact (hatk k (.inr hk)).2
      · have hk' : k ∉ keysN (cs i).ps := fun hh => hk (d.w.ws k hh)
        obtain ⟨n, hn1, hn2, hn3, hn4⟩ := h4 k
        refine ⟨n, hn1, fun j hj => ?_, by rw [apply_regs_other hk']; exact hn3, by rw [apply_gv_other fun hh => hk' (d.w.gs k hh)]; exact hn4⟩
        have hne : j ≠ i := fun e => by
          subst e
          obtain ⟨τ, hτ, hkτ⟩ := hj
          rw [hσ] at hτ; cases hτ; exact hk hkτ
        rw [hS', ← hn2 j hj]
        exact ⟨fun q => q.resolve_right hne, .inl⟩
    · by_cases hk : id ∈ σ.wo
      · refine ⟨i + 1, by omega, fun j hj => ?_, ?_⟩
        · rw [hS', hordo id (.inr hk) j hj]; omega
        · rw [d.sown]
          by_cases hk' : id ∈ (cs i).del ∨ id ∈ keysN (cs i).add
          · exact apply_own_own hk'
          · have hk1 : id ∉ (cs i).del := fun hh => hk' (.inl hh)
            have hk2 : id ∉ keysN (cs i).add := fun hh => hk' (.inr hh)
            rw [apply_own_other hk1 hk2, apply_own_other hk1 hk2]; exact hato id (.inr hk)
      · have hk1 : id ∉ (cs i).del := fun hh => hk (d.w.del id hh)
        have hk2 : id ∉ keysN (cs i).add := fun hh => hk (d.w.add id hh)
        obtain ⟨n, hn1, hn2, hn3⟩ := h5 id
        refine ⟨n, hn1, fun j hj => ?_, by rw [apply_own_other hk1 hk2]; exact hn3⟩
        have hne : j ≠ i := fun e => by
          subst e
          obtain ⟨τ, hτ, hkτ⟩ := hj
          rw [hσ] at hτ; cases hτ; exact hk hkτ
        rw [hS', ← hn2 j hj]
        exact ⟨fun q => q.resolve_right hne, .inl⟩
    · have hj1 : ¬ S listed j := fun q => hj ((hS' j).2 (.inl q))
      have hj2 : j ≠ i := fun e => hj ((hS' j).2 (.inr e))
      refine hkeep n (h6 j τ hτ hj1 n hn) fun hh => ?_
      exact hj2 (newsOf_apart hdist j i τ σ hτ hσ hn (d.w.new n hh))
    · refine hkeep n (h7 n hn) fun hh => ?_
      have := (hnews n (d.w.new n hh)).2; omega
  -- all of it
  have hloop : ∀ fuel listed a w, notDone all.length (fun j => listed.getD j false) ≤ fuel → Inv listed a w → wpAny P .any all.toArray (Exit.then (konts P X (lift P X Q) k).1 (konts P X (lift P X Q) k).2) fuel listed a w := fun fuel => by
    induction fuel with
    | zero =>
      intro listed a w hf hI
      have hr : Region.ready .any all.toArray listed = [] := by
        cases hr : Region.ready .any all.toArray listed with
        | nil => rfl
        | cons i r =>
          exfalso
          have hi : i ∈ Region.ready .any all.toArray listed := by rw [hr]; exact List.mem_cons_self
          obtain ⟨hun, o, ho, _⟩ := mem_ready.1 hi
          have hilt : i < all.length := by simpa using (Array.getElem?_eq_some_iff.1 ho).1
          have : i < listed.size := by rw [hI.1]; exact hilt
          have hz : (List.range all.length).countP (fun j => !listed.getD j false) = 0 := by simpa [notDone] using hf
          rw [List.countP_eq_zero] at hz
          have := hz i (by simpa using hilt)
          simp_all
      exact ⟨hr, hend listed a w hI hr⟩
    | succ fuel ih =>
      intro listed a w hf hI
      refine ⟨hend listed a w hI, fun i hi => hgo' listed a w hI i hi _ fun a' w' hI' => ih _ a' w' ?_ hI'⟩
      obtain ⟨hun, o, ho, _⟩ := mem_ready.1 hi
      have hilt : i < all.length := by simpa using (Array.getElem?_eq_some_iff.1 ho).1
      have hil : i < listed.size := by rw [hI.1]; exact hilt
      have : notDone all.length (fun j => (listed.setIfInBounds i true).getD j false) < notDone all.length (fun j => listed.getD j false) := by
        refine countP_lt (y := i) (fun j _ hj => ?_) (by simpa using hilt) (by simp [hil] at hun ⊢; exact hun) (by simp [hil])
        by_cases e : i = j
        · subst e; simp [hil] at hj
        · simp only [] at hj ⊢; rw [getD_set_ne false e] at hj; exact hj
      omega
  have hsize0 : (Array.replicate all.toArray.size false).size = all.length := by simp
  have hS0 : ∀ j, ¬ (Array.replicate all.toArray.size false).getD j false = true := fun j => by simp [Array.getElem?_replicate]; split <;> simp
  refine hloop _ _ a0 _ ?_ ⟨hsize0, fun j hj => absurd hj (hS0 j), ρ0, M0, { s0 with nx := topN }, (g0.drew _).raise (by omega), rfl, hasm, rfl, fun k => ⟨0, Nat.zero_le _, fun j _ => ⟨fun q => absurd q (hS0 j), fun q => by omega⟩, by rw [hst0], by rw [hst0]⟩, fun id => ⟨0, Nat.zero_le _, fun j _ => ⟨fun q => absurd q (hS0 j), fun q => by omega⟩, by rw [hst0]⟩, fun j σ hσ _ n hn => g0.fresh n (allGe_mem hge (newsOf_mem.2 ⟨j, σ, hσ, hn⟩)), fun n hn => g0.fresh n (by omega)⟩
  unfold notDone
  refine Nat.le_trans List.countP_le_length ?_
  simp

end Go.Cel
