/- CelU: the evaluator in regions whose order is drawn. -/
import Derived.Test.YtflmcnpfeikoeaaGreatDoorK06
import Derived.Laws.Cover3
set_option linter.unusedVariables false
set_option linter.unusedSimpArgs false
namespace Go.Cel
variable {P : Program} {T : Nat → Ty} {X : CtxD} {ρ : Rho} {M : Imm} {r s s' : St} {a : Act} {W : World} {p : Path} {o : Oper} {v : A}

def slotsO : List Operand → List Nat
  | [] => []
  | .tmp t :: r => t :: slotsO r
  | .const _ :: r => slotsO r
  | .func _ :: r => slotsO r
  | .global _ :: r => slotsO r

def partR (R : List (Nat × Path × A)) : List Nat → List (Nat × Path × A)
  | [] => []
  | k :: l => match look k R with
    | some (p, v) => (k, p, v) :: partR R l
    | none => partR R l
def partG (R : List (Nat × Path × Bool)) : List Nat → List (Nat × Path × Bool)
  | [] => []
  | k :: l => match look k R with
    | some (p, v) => (k, p, v) :: partG R l
    | none => partG R l
def partO (R : List (Nat × Blk)) : List Nat → List (Nat × Blk)
  | [] => []
  | k :: l => match look k R with
    | some b => (k, b) :: partO R l
    | none => partO R l
def pathKeys : List (Nat × Path × A) → List Nat → List Nat
  | [], l => l
  | (_, p, _) :: r, l => pathKeys r (keysN p ++ l)
/-- a part of a state. -/
def part (s : St) (os gs ids : List Nat) : St := ⟨partR s.regs os, partO s.own ids, topN, partG s.gv gs, [], s.sz⟩

theorem partR_mem {R : List (Nat × Path × A)} {k : Nat} {p : Path} {v : A} : ∀ {os : List Nat}, (k, p, v) ∈ partR R os → k ∈ os ∧ look k R = some (p, v)
  | [], h => by simp [partR] at h
  | x :: l, h => by
    simp only [partR] at h
    split at h
    · rename_i q u hl
      rcases List.mem_cons.1 h with e | h
      · cases e; exact ⟨List.mem_cons_self, hl⟩
      · obtain ⟨h1, h2⟩ := partR_mem h; exact ⟨List.mem_cons_of_mem _ h1, h2⟩
    · obtain ⟨h1, h2⟩ := partR_mem h; exact ⟨List.mem_cons_of_mem _ h1, h2⟩
theorem partG_mem {R : List (Nat × Path × Bool)} {k : Nat} {p : Path} {v : Bool} : ∀ {os : List Nat}, (k, p, v) ∈ partG R os → k ∈ os ∧ look k R = some (p, v)
  | [], h => by simp [partG] at h
  | x :: l, h => by
    simp only [partG] at h
    split at h
    · rename_i q u hl
      rcases List.mem_cons.1 h with e | h
      · cases e; exact ⟨List.mem_cons_self, hl⟩
      · obtain ⟨h1, h2⟩ := partG_mem h; exact ⟨List.mem_cons_of_mem _ h1, h2⟩
    · obtain ⟨h1, h2⟩ := partG_mem h; exact ⟨List.mem_cons_of_mem _ h1, h2⟩
theorem partO_mem {R : List (Nat × Blk)} {k : Nat} {b : Blk} : ∀ {os : List Nat}, (k, b) ∈ partO R os → k ∈ os ∧ look k R = some b
  | [], h => by simp [partO] at h
  | x :: l, h => by
    simp only [partO] at h
    split at h
    · rename_i u hl
      rcases List.mem_cons.1 h with e | h
      · cases e; exact ⟨List.mem_cons_self, hl⟩
      · obtain ⟨h1, h2⟩ := partO_mem h; exact ⟨List.mem_cons_of_mem _ h1, h2⟩
    · obtain ⟨h1, h2⟩ := partO_mem h; exact ⟨List.mem_cons_of_mem _ h1, h2⟩

def wfRB (r : St) : List (Nat × Path × A) → Bool
  | [] => true
  | (_, p, _) :: l => pin r p && wfRB r l
def wfGB (r : St) : List (Nat × Path × Bool) → Bool
  | [] => true
  | (_, p, _) :: l => pin r p && wfGB r l
def wfB (r : St) : Bool := wfRB r r.regs && wfGB r r.gv
theorem wfRB_mem {k : Nat} {p : Path} {v : A} : ∀ {l : List (Nat × Path × A)}, wfRB r l = true → (k, p, v) ∈ l → pin r p = true
  | [], _, h => by simp at h
  | (x, q, u) :: l, h, hm => by
    simp only [wfRB, Bool.and_eq_true] at h
    rcases List.mem_cons.1 hm with e | hm
    · cases e; exact h.1
    · exact wfRB_mem h.2 hm
theorem wfGB_mem {k : Nat} {p : Path} {v : Bool} : ∀ {l : List (Nat × Path × Bool)}, wfGB r l = true → (k, p, v) ∈ l → pin r p = true
  | [], _, h => by simp at h
  | (x, q, u) :: l, h, hm => by
    simp only [wfGB, Bool.and_eq_true] at h
    rcases List.mem_cons.1 hm with e | hm
    · cases e; exact h.1
    · exact wfGB_mem h.2 hm

def subN : List Nat → List Nat → Bool
  | [], _ => true
  | x :: r, l => memN x l && subN r l
theorem subN_mem {x : Nat} {m : List Nat} : ∀ {l : List Nat}, subN l m = true → x ∈ l → x ∈ m
  | [], _, h => by simp at h
  | y :: r, h, hm => by
    simp only [subN, Bool.and_eq_true] at h
    rcases List.mem_cons.1 hm with rfl | hm
    · exact memN_mem.1 h.1
    · exact subN_mem h.2 hm

/-- the general case. -/
theorem stepD_of {all : List Oper} {i : Nat} {os gs ids : List Nat} {ps : List (Nat × Path × A)} {gg : List (Nat × Path × Bool)} {del new : List Nat} {add : List (Nat × Blk)} {s1 : St} {σ : Sig}
    (hop : OpT P all i ⟨part s os gs ids, ps, gg, del, add, new⟩) (hwf : wfB (part s os gs ids) = true) (hps : noGv s.gv ps = true)
    (hσ : (subN os σ.rs && subN gs σ.rs && subN (keysN ps) σ.ws && subN (keysN gg) (keysN ps) && subN ids σ.ro && subN del σ.wo && subN (keysN add) σ.wo && subN new σ.new) = true)
    (h1 : ∀ k, look k s1.regs = look k (apply s ⟨part s os gs ids, ps, gg, del, add, new⟩).regs) (h2 : ∀ k, look k s1.gv = look k (apply s ⟨part s os gs ids, ps, gg, del, add, new⟩).gv) (h3 : ∀ id, look id s1.own = look id (apply s ⟨part s os gs ids, ps, gg, del, add, new⟩).own) (h4 : s1.sz = s.sz) :
    StepD P all i s σ s1 ⟨part s os gs ids, ps, gg, del, add, new⟩ := by
  simp only [Bool.and_eq_true] at hσ
  obtain ⟨⟨⟨⟨⟨⟨⟨q1, q2⟩, q3⟩, q4⟩, q5⟩, q6⟩, q7⟩, q8⟩ := hσ
  simp only [wfB, Bool.and_eq_true] at hwf
  refine ⟨⟨fun k y hk => ?_, fun k y hk => ?_, fun k hk => subN_mem q3 hk, fun k hk => subN_mem q4 hk, fun id b hb => subN_mem q5 (partO_mem hb).1, fun id hi => subN_mem q6 hi, fun id hi => subN_mem q7 hi, fun id hi => subN_mem q8 hi, rfl⟩, hop, fun k y hk => ?_, fun k y hk => ?_, fun id b hb => (partO_mem hb).2, fun k p v hk => pin_mem (wfRB_mem hwf.1 hk), fun k q x hk => pin_mem (wfGB_mem hwf.2 hk), rfl, rfl, fun x hx => noGv_mem hps hx, h1, h2, h3, h4⟩
  · obtain ⟨p, v⟩ := y; exact subN_mem q1 (partR_mem (look_mem hk)).1
  · obtain ⟨p, v⟩ := y; exact subN_mem q2 (partG_mem (look_mem hk)).1
  · obtain ⟨p, v⟩ := y; exact (partR_mem (look_mem hk)).2
  · obtain ⟨p, v⟩ := y; exact (partG_mem (look_mem hk)).2

/-! The loop. -/
def forceN {β : Type} (k : List Nat → Option β) : List Nat → List Nat → Option β
  | [], acc => revGo acc [] k
  | x :: r, acc => forceN k r (x :: acc)
theorem forceN_eq {β : Type} (k : List Nat → Option β) : ∀ (l acc : List Nat), forceN k l acc = k (acc.reverse ++ l)
  | [], acc => by simp [forceN, revGo_eq]
  | x :: r, acc => by simp [forceN, forceN_eq k r]

def idOfV : Option A → List Nat
  | some (.b (.l (.orow id))) => [id]
  | some (.b (.l (.osl id _ _ _))) => [id]
  | _ => []
/-- the blocks that an operation looks into. -/
def idsOf (s : St) (p : Path) (op : Op) : List Nat :=
  match op with
  | .load _ x => match ev s p x with
    | some (.b (.l (.ptr id _))) => [id]
    | some (.b (.l (.optr id _ _ _))) => [id]
    | _ => []
  | .store _ x _ => match ev s p x with
    | some (.b (.l (.ptr id _))) => [id]
    | some (.b (.l (.optr id _ _ _))) => [id]
    | _ => []
  | .call { callee := .builtin .len, args := args, .. } => match args.toList with
    | [x] => idOfV (ev s p x)
    | _ => []
  | .call { callee := .builtin _, args := args, .. } => match args.toList with
    | [x] => idOfV (ev s p x)
    | [x, y] => idOfV (ev s p x) ++ idOfV (ev s p y)
    | _ => []
  | .slice _ x _ _ _ => idOfV (ev s p x)
  | .indexAddr _ x _ => idOfV (ev s p x)
  | _ => []

def dstN : Option Nat → List Nat
  | none => []
  | some d => [d]

variable (T) in
/-- operations that turn blocks of one's own. -/
def turnD (s r : St) (o : Oper) (os ids : List Nat) : Option (Sig × St) :=
  match o.op with
  | .alloc t => match o.dst, s with
    | some d, ⟨R, O, n, g, m, z⟩ => bif (T t).kd.known && Nat.blt d z && noGv g [(d, [], .undef)] then zeroGo (T t).zero [] fun cs => some (⟨os, [d], ids, [n], [n]⟩, ⟨(d, [], .b (.l (.ptr n 0))) :: R, (n, .cells cs t) :: O, n + 1, g, m, z⟩) else none
    | none, _ => none
  | .box t x => match o.dst, s with
    | some d, ⟨R, O, n, g, m, z⟩ => match ev r [] x with
      | some u => match cellsA u with
        | some cs => bif Nat.blt d z && noGv g [(d, [], .undef)] then some (⟨os, [d], ids, [n], [n]⟩, ⟨(d, [], .b (.l (.ptr n 0))) :: R, (n, .cells cs t) :: O, n + 1, g, m, z⟩) else none
        | none => none
      | none => none
    | none, _ => none
  | .store t x y => match o.dst, s with
    | none, ⟨R, O, n, g, m, z⟩ => match ev r [] x, ev r [] y with
      | some (.b (.l (.ptr id off))), some u => match cellsA u, look id r.own with
        | some (x0 :: new), some (.cells cs bt) => bif (T t).kd.known && lenL (x0 :: new) (T t).size then (match writeGo off (x0 :: new) cs [] fun cs' => updGo id (.cells cs' bt) (fun O => some ⟨R, O, n, g, m, z⟩) O [] with
          | some ⟨R, O, n, g, m, z⟩ => some (⟨os, [], ids, [id], []⟩, ⟨R, O, n, g, m, z⟩)
          | none => none) else none
        | _, _ => none
      | _, _ => none
    | some _, _ => none
  | _ => none

/-- under which guards; slots; guards' slots; blocks. -/
def prepD {β : Type} (all : List Oper) (s : St) (o : Oper) (k : Path → List Nat → List Nat → List Nat → List Nat → Option β) : Option β :=
  match pathOf all s o with
  | none => none
  | some p => forceN (fun os => forceN (fun gs => forceN (fun ids => forceN (fun rs => k p rs os gs ids) (os ++ gs) []) (idsOf s p o.op) []) (keysN p ++ pathKeys (partR s.regs os) []) []) (slotsO o.op.operands.toList) []
theorem prepD_some {β : Type} {all : List Oper} {k : Path → List Nat → List Nat → List Nat → List Nat → Option β} {y : β} (h : prepD all s o k = some y) : ∃ p os gs ids, pathOf all s o = some p ∧ k p (os ++ gs) os gs ids = some y := by
  unfold prepD at h
  split at h
  · cases h
  · rename_i p hp
    simp only [forceN_eq, List.reverse_nil, List.nil_append] at h
    exact ⟨p, _, _, _, hp, h⟩

variable (T) in
def stepD (all : List Oper) (s : St) (o : Oper) : Option (Sig × St) :=
  prepD all s o fun p rs os gs ids => match pathOf all (part s os gs ids) o with
    | none => none
    | some p => bif wfB (part s os gs ids) && pin (part s os gs ids) p then (match evP T (part s os gs ids) p o.op with
      | some v => match putV s o p v with
        | some ⟨R, O, n, g, m, z⟩ => some (⟨rs, dstN o.dst, ids, [], []⟩, ⟨R, O, n, g, m, z⟩)
        | none => none
      | none => match o.guard with
        | none => turnD T s (part s os gs ids) o rs ids
        | some _ => none) else none

theorem putV_some {s1 : St} (h : putV s o p v = some s1) : (o.dst = none ∧ s1 = s) ∨ ∃ d gs, o.dst = some d ∧ look d s.gv = none ∧ Nat.blt d s.sz = true ∧ (gs = [] ∨ ∃ x, v = dl (.bool x) ∧ gs = [(d, p, x)]) ∧ s1 = ⟨(d, p, v) :: s.regs, s.own, s.nx, gs ++ s.gv, s.asm, s.sz⟩ := by
  obtain ⟨R, O, n, g, m, z⟩ := s
  have hput : ∀ {u : A}, put ⟨R, O, n, g, m, z⟩ o.dst p u = some s1 → (o.dst = none ∧ s1 = ⟨R, O, n, g, m, z⟩) ∨ ∃ d, o.dst = some d ∧ look d g = none ∧ Nat.blt d z = true ∧ s1 = ⟨(d, p, u) :: R, O, n, g, m, z⟩ := fun {u} h => by
    cases hd : o.dst with
    | none => rw [hd] at h; simp [put] at h; exact .inl ⟨rfl, h.symm⟩
    | some d =>
      rw [hd] at h
      simp only [put] at h
      split at h
      · rename_i hl
        cases hb : Nat.blt d z with
        | false => simp [hb] at h
        | true => simp [hb] at h; exact .inr ⟨d, rfl, hl, hb, h.symm⟩
      · cases h
  unfold putV at h
  split at h
  · rename_i x hm
    cases hd : o.dst with
    | none => rw [hd] at h; simp [putG] at h; exact .inl ⟨rfl, h.symm⟩
    | some d =>
      rw [hd] at h
      simp only [putG] at h
      split at h
      · rename_i hl
        cases hb : Nat.blt d z with
        | false => simp [hb] at h
        | true => simp [hb] at h; exact .inr ⟨d, [(d, p, x)], rfl, hl, hb, .inr ⟨x, rfl, rfl⟩, h.symm⟩
      · cases h
  · rcases hput h with h | ⟨d, h1, h2, h3, h4⟩
    · exact .inl h
    · exact .inr ⟨d, [], h1, h2, h3, .inl rfl, h4⟩

theorem remP_nil (O : List (Nat × Blk)) : remP [] O = O := by simp [remP, memN]

theorem subN_self (l : List Nat) : subN l l = true := by
  have : ∀ {m l : List Nat}, (∀ x ∈ l, x ∈ m) → subN l m = true := by
    intro m l
    induction l with
    | nil => intro _; rfl
    | cons x r ih =>
      intro h
      simp only [subN, Bool.and_eq_true]
      exact ⟨memN_mem.2 (h x List.mem_cons_self), ih fun y hy => h y (List.mem_cons_of_mem _ hy)⟩
  exact this fun _ h => h
theorem subN_of {m l : List Nat} (h : ∀ x ∈ l, x ∈ m) : subN l m = true := by
  induction l with
  | nil => rfl
  | cons x r ih =>
    simp only [subN, Bool.and_eq_true]
    exact ⟨memN_mem.2 (h x List.mem_cons_self), ih fun y hy => h y (List.mem_cons_of_mem _ hy)⟩

/-- a value that an operation yields. -/
theorem stepD_Y {all : List Oper} {i : Nat} {os gs ids : List Nat} {s1 : St} (hi : all[i]? = some o) (hp : pathOf all (part s os gs ids) o = some p) (hwf : wfB (part s os gs ids) = true) (hy : Yl P o (part s os gs ids) p v) (h : putV s o p v = some s1) :
    ∃ c, StepD P all i s ⟨os ++ gs, dstN o.dst, ids, [], []⟩ s1 c := by
  have hs1 : subN os (os ++ gs) = true := subN_of fun x hx => List.mem_append_left _ hx
  have hs2 : subN gs (os ++ gs) = true := subN_of fun x hx => List.mem_append_right _ hx
  rcases putV_some h with ⟨hd, rfl⟩ | ⟨d, gg, hd, hl, hb, hg, rfl⟩
  · refine ⟨_, stepD_of (ps := []) (gg := []) (del := []) (new := []) (add := []) (opT_Y hi hp hy (.inr ⟨hd, rfl, rfl⟩)) hwf rfl ?_ ?_ ?_ ?_ rfl⟩
    · simp [hs1, hs2, subN_self, subN, keysN]
    · intro k; simp [apply_eq]
    · intro k; simp [apply_eq]
    · intro k; simp [apply_eq, remP_nil]
  · refine ⟨_, stepD_of (ps := [(d, p, v)]) (gg := gg) (del := []) (new := []) (add := []) (opT_Y hi hp hy (.inl ⟨d, hd, rfl, hb, hg⟩)) hwf (by simp [noGv, hl]) ?_ ?_ ?_ ?_ rfl⟩
    · rcases hg with rfl | ⟨x, _, rfl⟩ <;> simp [hs1, hs2, subN_self, subN, keysN, hd, dstN, memN, Nat.beq_refl]
    · intro k; simp [apply_eq]
    · intro k
      rcases hg with rfl | ⟨x, _, rfl⟩ <;> simp [apply_eq]
    · intro k; simp [apply_eq, remP_nil]

/-- an operation that turns blocks of one's own. -/
theorem stepD_T {all : List Oper} {i : Nat} {os gs ids : List Nat} {ps : List (Nat × Path × A)} {del new : List Nat} {add : List (Nat × Blk)} {s1 : St} {σ : Sig} (hi : all[i]? = some o) (hg : o.guard = none) (ht : Tl P o ⟨part s os gs ids, ps, [], del, add, new⟩) (hwf : wfB (part s os gs ids) = true) (hps : noGv s.gv ps = true)
    (hσ : (subN os σ.rs && subN gs σ.rs && subN (keysN ps) σ.ws && subN ids σ.ro && subN del σ.wo && subN (keysN add) σ.wo && subN new σ.new) = true)
    (h1 : s1.regs = ps.reverse ++ s.regs) (h2 : s1.gv = s.gv) (h3 : ∀ id, look id s1.own = look id (add.reverse ++ remP del s.own)) (h4 : s1.sz = s.sz) : StepD P all i s σ s1 ⟨part s os gs ids, ps, [], del, add, new⟩ := by
  refine stepD_of (opT_T hi hg ht) hwf hps ?_ (fun k => ?_) (fun k => ?_) (fun id => ?_) h4
  · simp only [Bool.and_eq_true] at hσ ⊢
    obtain ⟨⟨⟨⟨⟨⟨q1, q2⟩, q3⟩, q5⟩, q6⟩, q7⟩, q8⟩ := hσ
    exact ⟨⟨⟨⟨⟨⟨⟨q1, q2⟩, q3⟩, rfl⟩, q5⟩, q6⟩, q7⟩, q8⟩
  · rw [apply_eq, h1]
  · rw [apply_eq, h2]; rfl
  · rw [apply_eq]; exact h3 id

theorem turnD_sound (hT : TabOK P T) {all : List Oper} {i : Nat} {os gs ids : List Nat} {s1 : St} {σ : Sig} (hi : all[i]? = some o) (hg : o.guard = none) (hwf : wfB (part s os gs ids) = true) (h : turnD T s (part s os gs ids) o (os ++ gs) ids = some (σ, s1)) :
    ∃ c, StepD P all i s σ s1 c := by
  have hs1 : subN os (os ++ gs) = true := subN_of fun x hx => List.mem_append_left _ hx
  have hs2 : subN gs (os ++ gs) = true := subN_of fun x hx => List.mem_append_right _ hx
  unfold turnD at h
  split at h
  · rename_i t ho
    split at h
    · rename_i d R O n g m z hd
      simp only [zeroGo_eq] at h
      cases hb : ((T t).kd.known && Nat.blt d z && noGv g [(d, [], .undef)]) with
      | false => simp [hb] at h
      | true =>
        simp [hb] at h
        obtain ⟨rfl, rfl⟩ := h
        simp only [Bool.and_eq_true] at hb
        refine ⟨_, stepD_T (ps := [(d, [], .b (.l (.ptr n 0)))]) (del := []) (new := [n]) (add := [(n, .cells ((T t).zero.map L.d) t)]) hi hg (tl_alloc (n := n) hT ho hd hb.1.2 hb.1.1) hwf (by simpa [noGv] using hb.2) ?_ rfl rfl (fun id => ?_) rfl⟩
        · simp [hs1, hs2, subN_self, subN, keysN, memN, Nat.beq_refl]
        · simp [remP_nil]
    · cases h
  · rename_i t x ho
    split at h
    · rename_i d R O n g m z hd
      split at h
      · rename_i u hu
        split at h
        · rename_i cs hc
          cases hb : (Nat.blt d z && noGv g [(d, [], .undef)]) with
          | false => simp [hb] at h
          | true =>
            simp [hb] at h
            obtain ⟨rfl, rfl⟩ := h
            simp only [Bool.and_eq_true] at hb
            refine ⟨_, stepD_T (ps := [(d, [], .b (.l (.ptr n 0)))]) (del := []) (new := [n]) (add := [(n, .cells cs t)]) hi hg (tl_box (n := n) hT ho hd hb.1 hu hc) hwf (by simpa [noGv] using hb.2) ?_ rfl rfl (fun id => ?_) rfl⟩
            · simp [hs1, hs2, subN_self, subN, keysN, memN, Nat.beq_refl]
            · simp [remP_nil]
        · cases h
      · cases h
    · cases h
  · rename_i t x y ho
    split at h
    · rename_i R O n g m z hd
      split at h
      · rename_i id off u hx hy
        split at h
        · rename_i x0 new cs bt hc hl
          cases hb : ((T t).kd.known && lenL (x0 :: new) (T t).size) with
          | false => simp [hb] at h
          | true =>
            simp only [hb, cond_true] at h
            simp only [Bool.and_eq_true] at hb
            split at h
            · rename_i R' O' n' g' m' z' hw
              simp only [Option.some.injEq, Prod.mk.injEq] at h
              obtain ⟨rfl, rfl⟩ := h
              obtain ⟨hb1, hw1⟩ := writeGo_some hw
              rw [updGo_eq] at hw1
              simp at hw1
              obtain ⟨rfl, rfl, rfl, rfl, rfl, rfl⟩ := hw1
              have hw2 : writeGo off (x0 :: new) cs [] some = some (splice off (x0 :: new) cs) := by
                have key : ∀ {cs : List L} {off : Nat} {new acc : List L} {β : Type} {k : List L → Option β} {y : β}, writeGo off new cs acc k = some y → writeGo off new cs acc some = some (acc.reverse ++ splice off new cs) := by
                  intro cs
                  induction cs with
                  | nil =>
                    intro off new acc β k y h
                    cases new with
                    | nil => simp [writeGo, revGo_eq, splice_nil]
                    | cons _ _ => cases off <;> simp [writeGo] at h
                  | cons c cs ih =>
                    intro off new acc β k y h
                    cases new with
                    | nil => cases off <;> simp [writeGo, revGo_eq, splice_nil]
                    | cons x new =>
                      cases off with
                      | zero =>
                        simp only [writeGo] at h ⊢
                        rw [ih h, splice_zero]; simp
                      | succ off =>
                        simp only [writeGo] at h ⊢
                        rw [ih h, splice_succ]; simp
                simpa using key hw
              refine ⟨_, stepD_T (ps := []) (del := [id]) (new := []) (add := [(id, .cells (splice off (x0 :: new) cs) bt)]) hi hg (tl_store hT ho hd hb.1 hx hy hl hc hb.2 hw2) hwf rfl ?_ rfl rfl (fun j => ?_) rfl⟩
              · simp [hs1, hs2, subN_self, subN, keysN, memN, Nat.beq_refl]
              · have hown : ∃ b, look id O = some b := ⟨_, (partO_mem (look_mem hl)).2⟩
                have key : ∀ {l : List (Nat × Blk)} {j : Nat} {b : Blk}, look j (upd id b l) = if j = id then (match look id l with | some _ => some b | none => none) else look j l := by
                  intro l
                  induction l with
                  | nil => intro j b; simp [upd, look]
                  | cons q l ih =>
                    obtain ⟨q1, q2⟩ := q
                    intro j b
                    have ih' := @ih j b
                    unfold upd at ih' ⊢
                    rw [List.map_cons]
                    by_cases e : q1 = id
                    · subst e
                      simp only [Nat.beq_refl, cond_true, look_cons]
                      by_cases e' : q1 = j
                      · subst e'; simp
                      · rw [if_neg e', ih', if_neg (Ne.symm e'), if_neg (Ne.symm e'), if_neg e']
                    · have : Nat.beq q1 id = false := by
                        cases hb : Nat.beq q1 id with
                        | false => rfl
                        | true => exact absurd (Nat.eq_of_beq_eq_true hb) e
                      simp only [this, cond_false, look_cons]
                      by_cases e' : q1 = j
                      · subst e'; simp [e]
                      · rw [if_neg e', ih', if_neg e', if_neg e]
                obtain ⟨b, hb'⟩ := hown
                rw [key, hb']
                simp only [List.reverse_cons, List.reverse_nil, List.nil_append, List.cons_append, look_cons, look_remP]
                by_cases e : j = id
                · subst e; simp
                · simp [e, Ne.symm e]
            · cases h
        · cases h
      · cases h
    · cases h
  · cases h

theorem stepD_sound (hT : TabOK P T) {all : List Oper} {i : Nat} {s1 : St} {σ : Sig} (hi : all[i]? = some o) (h : stepD T all s o = some (σ, s1)) : ∃ c, StepD P all i s σ s1 c := by
  unfold stepD at h
  obtain ⟨p0, os, gs, ids, _, h⟩ := prepD_some h
  split at h
  · cases h
  · rename_i p hp
    cases hb : (wfB (part s os gs ids) && pin (part s os gs ids) p) with
    | false => simp [hb] at h
    | true =>
      simp only [hb, cond_true] at h
      simp only [Bool.and_eq_true] at hb
      split at h
      · rename_i v hv
        split at h
        · rename_i R O n g m z hput
          simp only [Option.some.injEq, Prod.mk.injEq] at h
          obtain ⟨rfl, rfl⟩ := h
          exact stepD_Y hi hp hb.1 (Yl.ev hT hb.2 hv) hput
        · cases h
      · split at h
        · rename_i hg
          exact turnD_sound hT hi hg hb.1 h
        · cases h

structure OutD where
  ops : List Oper
  rev : List Sig
  s : St

variable (T) in
def runD (all : List Oper) : List Oper → List Sig → St → OutD
  | [], rev, s => ⟨[], rev, s⟩
  | o :: r, rev, s => match stepD T all s o with
    | some (⟨a, b, c, d, e⟩, ⟨R, O, n, g, m, z⟩) => runD all r (⟨a, b, c, d, e⟩ :: rev) ⟨R, O, n, g, m, z⟩
    | none => ⟨o :: r, rev, s⟩

/-- THE JUDGEMENT within a region whose order is drawn: its operations in the text's order. -/
def VD (P : Program) (all : List Oper) (s0 : St) (rev : List Sig) (s : St) (G : Prop) : Prop := ValidL P all 0 s0 rev.reverse s → G

theorem runD_sound (hT : TabOK P T) {all : List Oper} {s0 : St} : ∀ {ops : List Oper} {rev rev' : List Sig} {s s' : St} {ops' : List Oper}, all.drop rev.length = ops → runD T all ops rev s = ⟨ops', rev', s'⟩ → ValidL P all 0 s0 rev.reverse s → ValidL P all 0 s0 rev'.reverse s' ∧ all.drop rev'.length = ops'
  | [], rev, rev', s, s', ops', hd, h, hv => by
    simp only [runD, OutD.mk.injEq] at h
    obtain ⟨rfl, rfl, rfl⟩ := h
    exact ⟨hv, hd⟩
  | o :: r, rev, rev', s, s', ops', hd, h, hv => by
    simp only [runD] at h
    have hi : all[rev.length]? = some o := by
      have : (all.drop rev.length)[0]? = some o := by rw [hd]; rfl
      simpa using this
    have hd' : all.drop (rev.length + 1) = r := by
      rw [← List.drop_drop, hd]; rfl
    split at h
    · rename_i hs
      obtain ⟨c, hc⟩ := stepD_sound hT hi hs
      refine runD_sound hT (by simpa using hd') h ?_
      rw [List.reverse_cons]
      exact hv.snoc (by simpa using hc)
    · simp only [OutD.mk.injEq] at h
      obtain ⟨rfl, rfl, rfl⟩ := h
      exact ⟨hv, hd⟩

/-- THE RULES IN SUCH A REGION. -/
theorem VD_start {all : List Oper} {id0 : Nat} {k : List It} {Q : Post} {s0 : St} (h : VD P all s0 [] s0 (V P X (.c (.region id0 all.toArray true) :: k) s0 Q)) : V P X (.c (.region id0 all.toArray true) :: k) s0 Q := h rfl
theorem VD_go (hT : TabOK P T) {all ops ops' : List Oper} {s0 s' : St} {rev rev' : List Sig} {G : Prop} (hd : all.drop rev.length = ops) (h : runD T all ops rev s = ⟨ops', rev', s'⟩) (hv : VD P all s0 rev' s' G) : VD P all s0 rev s G := fun hV => hv (runD_sound hT hd h hV).1
theorem VD_end (hT : TabOK P T) (hm : P.follows .mixedOrders = true) {n id0 t : Nat} {all all' ops' : List Oper} {rev : List Sig} {s0 s'' : St} {k k' : List It} {Q : Post} {R : List (Nat × Path × A)} {O : List (Nat × Blk)} {nx z : Nat} {gv : List (Nat × Path × Bool)} {as : Path}
    (hck : checkAll all rev.reverse = true) (hn : (allGe s0.nx (newsOf rev.reverse) && allLt nx (newsOf rev.reverse) && Nat.ble s0.nx nx && Nat.ble nx topN && distinct (keysN O)) = true) (hasm : s0.asm = []) (hz : s0.sz = z)
    (h : clean [] [] (fun R => exec T n k ⟨R, O, nx, [], [], z⟩) R = ⟨t, all', ops', k', s''⟩) (hv : VO P X ⟨t, all', ops', k', s''⟩ Q) : VD P all s0 rev ⟨R, O, nx, gv, as, z⟩ (V P X (.c (.region id0 all.toArray true) :: k) s0 Q) := fun hV => by
  refine draw_sound hm hV hck hn hasm ?_
  rw [clean_eq] at h
  rw [hz]
  exact V_go hT (by simpa using h) hv

theorem VD_Y (hT : TabOK P T) {all rest ops' : List Oper} {s0 s1 s' : St} {rev rev' : List Sig} {G : Prop} {os gs ids rs dd : List Nat} (hd : all.drop rev.length = o :: rest)
    (hpr : prepD all s o (fun p rs os gs ids => some (p, rs, os, gs, ids)) = some (p, rs, os, gs, ids)) (hck : (wfB (part s os gs ids) && pin (part s os gs ids) p) = true) (hp : pathOf all (part s os gs ids) o = some p) (hy : Yl P o (part s os gs ids) p v)
    (hput : putV s o p v = some s1) (hdd : dstN o.dst = dd) (h : runD T all rest (⟨rs, dd, ids, [], []⟩ :: rev) s1 = ⟨ops', rev', s'⟩) (hv : VD P all s0 rev' s' G) : VD P all s0 rev s G := fun hV => by
  obtain ⟨p', os', gs', ids', h1, h2⟩ := prepD_some hpr
  simp only [Option.some.injEq, Prod.mk.injEq] at h2
  obtain ⟨rfl, h3, rfl, rfl, rfl⟩ := h2
  simp only [Bool.and_eq_true] at hck
  have hi : all[rev.length]? = some o := by
    have : (all.drop rev.length)[0]? = some o := by rw [hd]; rfl
    simpa using this
  obtain ⟨c, hc⟩ := stepD_Y hi hp hck.1 hy hput
  rw [h3, hdd] at hc
  have hd' : all.drop (rev.length + 1) = rest := by rw [← List.drop_drop, hd]; rfl
  refine hv (runD_sound hT (by simpa using hd') h ?_).1
  rw [List.reverse_cons]
  exact hV.snoc (by simpa using hc)

theorem VD_T (hT : TabOK P T) {all rest ops' : List Oper} {s0 s1 s' : St} {rev rev' : List Sig} {G : Prop} {os gs ids del new : List Nat} {ps : List (Nat × Path × A)} {add : List (Nat × Blk)} {σ : Sig} (hd : all.drop rev.length = o :: rest)
    (hg : o.guard = none) (ht : Tl P o ⟨part s os gs ids, ps, [], del, add, new⟩) (hck : (wfB (part s os gs ids) && noGv s.gv ps) = true)
    (hσ : (subN os σ.rs && subN gs σ.rs && subN (keysN ps) σ.ws && subN ids σ.ro && subN del σ.wo && subN (keysN add) σ.wo && subN new σ.new) = true) (m : Nat)
    (happ : (match apply s ⟨part s os gs ids, ps, [], del, add, new⟩ with | ⟨R, O, _, g, a, z⟩ => (⟨R, O, m, g, a, z⟩ : St)) = s1) (h : runD T all rest (σ :: rev) s1 = ⟨ops', rev', s'⟩) (hv : VD P all s0 rev' s' G) : VD P all s0 rev s G := fun hV => by
  simp only [Bool.and_eq_true] at hck
  have hi : all[rev.length]? = some o := by
    have : (all.drop rev.length)[0]? = some o := by rw [hd]; rfl
    simpa using this
  rw [apply_eq] at happ
  simp only at happ
  have hc := stepD_T (s1 := s1) (σ := σ) hi hg ht hck.1 hck.2 hσ (by rw [← happ]) (by rw [← happ]; simp) (fun id => by rw [← happ]) (by rw [← happ])
  have hd' : all.drop (rev.length + 1) = rest := by rw [← List.drop_drop, hd]; rfl
  refine hv (runD_sound hT (by simpa using hd') h ?_).1
  rw [List.reverse_cons]
  exact hV.snoc (by simpa using hc)

end Go.Cel

set_option linter.unusedVariables false
set_option linter.unusedSimpArgs false
namespace Go.Cel
variable {P : Program} {T : Nat → Ty} {X : CtxD} {ρ : Rho} {M : Imm} {r s s' : St} {a : Act} {W : World} {p : Path} {o : Oper} {v : A}

def calleeP (s : St) (p : Path) : Operand → Option (FuncId × List B × List B)
  | .func f => some (f, [], [])
  | .tmp t => match ev s p (.tmp t) with
    | some (.b (.l (.d (.fn f a b)))) => some (f, a.map bD, b.map bD)
    | some (.b (.l (.ofn f a b))) => some (f, a.map cB, b.map cB)
    | some (.b (.l (.d (.mfn f cs)))) => some (f, [.agg (cs.map L.d)], [])
    | _ => none
  | _ => none

def evArgsP (s : St) (p : Path) : List Operand → Option (List B)
  | [] => some []
  | x :: r => match ev s p x, evArgsP s p r with
    | some (.b y), some l => some (y :: l)
    | _, _ => none

def callP (s : St) (p : Path) (o : Oper) : Option (FuncId × List B) :=
  match o.op with
  | .call { callee := .value cal, args := args, .. } => match calleeP s p cal, evArgsP s p args.toList with
    | some (f, a, b), some l => some (f, a ++ (l ++ b))
    | _, _ => none
  | _ => none

theorem evArgsP_den (g : Gam P X ρ M s a W) (hp : holds s.gv p) : ∀ {l : List Operand} {bs : List B}, evArgsP s p l = some bs → All2 (DenB P ρ M) bs (l.map a.eval)
  | [], bs, h => by simp [evArgsP] at h; subst h; trivial
  | x :: r, bs, h => by
    simp only [evArgsP] at h
    split at h
    · rename_i y l hx hl
      simp at h; subst h
      exact ⟨ev_den hx g hp, evArgsP_den g hp hl⟩
    · simp at h

theorem mfn_cells {cs : List D} {ws : List Value} {g : Nat → Value} (hl : ws.length = cs.length) (hg : ∀ (i : Nat) (x : D), cs[i]? = some x → ws[i]? = some (g i)) (hd : ∀ (i : Nat) (x : D), cs[i]? = some x → DenD P M x (g i)) : All2 (DenL P ρ M) (cs.map L.d) ws := by
  refine All2.map (All2.of_get hl.symm fun i x w hx hw => ?_)
  have := hg i x hx
  rw [this] at hw; simp at hw; subst hw
  exact hd i x hx
theorem callP_run {f : FuncId} {args : List B} (g : Gam P X ρ M s a W) (hp : holds s.gv p) (h : callP s p o = some (f, args)) (hE : ∀ (xs : Array Value) (W : World), (callFunc f xs).run P W = .ok (.enter f xs) W) :
    ∃ vs : List Value, (execOp a.eval o).run P W = .ok (.enter f vs.toArray) W ∧ All2 (DenB P ρ M) args vs := by
  unfold callP at h
  split at h
  · rename_i cal xs ts ho
    split at h
    · rename_i f' fa fb l hcal hargs
      simp at h
      obtain ⟨rfl, rfl⟩ := h
      have ha := evArgsP_den g hp hargs
      have key : ∀ (first caps : List Value), a.eval cal = .func (.func f') first.toArray caps.toArray → (execOp a.eval o).run P W = .ok (.enter f' (first ++ (xs.toList.map a.eval ++ caps)).toArray) W := by
        intro first caps he
        simp [execOp, ho, resolve, he, Deferred.ofValue, invoke, hE]
      have fin : ∃ first caps : List Value, a.eval cal = .func (.func f') first.toArray caps.toArray ∧ All2 (DenB P ρ M) fa first ∧ All2 (DenB P ρ M) fb caps := by
        unfold calleeP at hcal
        split at hcal
        · rename_i f2; simp at hcal; obtain ⟨rfl, rfl, rfl⟩ := hcal; exact ⟨[], [], rfl, trivial, trivial⟩
        · rename_i t
          split at hcal
          · rename_i f2 x y hl
            simp at hcal; obtain ⟨rfl, rfl, rfl⟩ := hcal
            have h3 : DenD P M (.fn f2 x y) (a.eval (.tmp t)) := ev_den hl g hp
            generalize a.eval (.tmp t) = z at h3
            cases h3 with
            | fn _ _ _ ws us hx hy g1 g2 hg1 hg2 d1 d2 => exact ⟨ws, us, rfl, All2_get_d hx hg1 d1, All2_get_d hy hg2 d2⟩
          · rename_i f2 x y hl
            simp at hcal; obtain ⟨rfl, rfl, rfl⟩ := hcal
            obtain ⟨ws, us, h3, h4, h5⟩ := ev_den hl g hp
            exact ⟨ws, us, h3, All2_cB h4, All2_cB h5⟩
          · rename_i f2 cs hl
            simp at hcal; obtain ⟨rfl, rfl, rfl⟩ := hcal
            have h3 : DenD P M (.mfn f2 cs) (a.eval (.tmp t)) := ev_den hl g hp
            generalize a.eval (.tmp t) = z at h3
            cases h3 with
            | mfn _ _ ws hx g1 hg1 d1 => exact ⟨[.agg ws.toArray], [], rfl, ⟨⟨ws, rfl, mfn_cells hx hg1 d1⟩, trivial⟩, trivial⟩
          · simp at hcal
        · simp at hcal
      obtain ⟨first, caps, h1, h2, h3⟩ := fin
      exact ⟨_, key first caps h1, All2.append h2 (All2.append ha h3)⟩
    · simp at h
  · simp at h

/-- A CALL BY A CONTRACT that turns nothing. -/
theorem yl_pure {f : FuncId} {args : List B} (con : Pure P f args v) (hc : callP r p o = some (f, args)) (hp : pin r p = true) (ha : noOwnBs args = true) : Yl P o r p v := by
  intro X ρ M s a W K Q g hs hh hK
  have gr := g.sub hs
  obtain ⟨vs, h1, h2⟩ := callP_run gr ((hs.holds (pin_mem hp)).2 hh) hc con.2.1
  unfold Oper.wp
  rw [h1]
  refine (con.2.2 W (fun _ => none) M vs (Mem.start g.imm) (noOwnBs_den ha h2)).mono ?_
  rintro e W' ⟨ρ', M', r', v', o', nx', rfl, hd, hwk, hm⟩
  have hd := hwk.den hd
  have hno : ∀ b, ¬ handed (fun _ => none) [] b := fun b hb => by obtain ⟨_, _, _, h, _⟩ := hb; simp at h
  have g1 := g.back hno hm
  exact hK M' W' v' ⟨hm.os, hm.tape, hm.output, hm.size, fun b hb => hm.old b hb (hno b)⟩ hm.mono g1 (noOwn_den con.1 hd)

/-- the same, where more is known of the arguments. -/
theorem yl_pureW {f : FuncId} {args args' : List B} (con : Pure P f args v) (hc : callP r p o = some (f, args')) (hp : pin r p = true) (hw : WkBs args' args) (ha : noOwnBs args = true) : Yl P o r p v := by
  intro X ρ M s a W K Q g hs hh hK
  have gr := g.sub hs
  obtain ⟨vs, h1, h2⟩ := callP_run gr ((hs.holds (pin_mem hp)).2 hh) hc con.2.1
  unfold Oper.wp
  rw [h1]
  refine (con.2.2 W (fun _ => none) M vs (Mem.start g.imm) (noOwnBs_den ha (hw.den h2))).mono ?_
  rintro e W' ⟨ρ', M', r', v', o', nx', rfl, hd, hwk, hm⟩
  have hd := hwk.den hd
  have hno : ∀ b, ¬ handed (fun _ => none) [] b := fun b hb => by obtain ⟨_, _, _, h, _⟩ := hb; simp at h
  have g1 := g.back hno hm
  exact hK M' W' v' ⟨hm.os, hm.tape, hm.output, hm.size, fun b hb => hm.old b hb (hno b)⟩ hm.mono g1 (noOwn_den con.1 hd)

/-- A function value. -/
def capD : List L → Option (List D)
  | [] => some []
  | .d x :: r => match capD r with
    | some l => some (x :: l)
    | none => none
  | _ :: _ => none
def evLs (r : St) (p : Path) : List Operand → Option (List D)
  | [] => some []
  | x :: q => match ev r p x, evLs r p q with
    | some (.b (.l (.d y))), some l => some (y :: l)
    | _, _ => none
theorem evLs_den (g : Gam P X ρ M s a W) (hp : holds s.gv p) : ∀ {l : List Operand} {ds : List D}, evLs s p l = some ds → All2 (DenD P M) ds (l.map a.eval)
  | [], ds, h => by simp [evLs] at h; subst h; trivial
  | x :: r, ds, h => by
    simp only [evLs] at h
    split at h
    · rename_i y l hx hl
      simp at h; subst h
      exact ⟨ev_den hx g hp, evLs_den g hp hl⟩
    · simp at h
theorem DenD_fn {f : FuncId} {xs ys : List D} {us vs : List Value} (h : All2 (DenD P M) xs us) (h' : All2 (DenD P M) ys vs) : DenD P M (.fn f xs ys) (.func (.func f) us.toArray vs.toArray) := by
  refine .fn f xs ys us vs (All2.length h).symm (All2.length h').symm (fun i => us.getD i Go.undef) (fun i => vs.getD i Go.undef) (fun i x hx => ?_) (fun i x hx => ?_) (fun i x hx => ?_) (fun i x hx => ?_)
  · obtain ⟨u, h1, _⟩ := All2.get h hx; simp [List.getD_eq_getElem?_getD, h1]
  · obtain ⟨u, h1, _⟩ := All2.get h' hx; simp [List.getD_eq_getElem?_getD, h1]
  · obtain ⟨u, h1, h2⟩ := All2.get h hx; simpa [List.getD_eq_getElem?_getD, h1] using h2
  · obtain ⟨u, h1, h2⟩ := All2.get h' hx; simpa [List.getD_eq_getElem?_getD, h1] using h2
theorem yl_makeFunc {f : FuncId} {xs ys : Array Operand} {us vs : List D} (ho : o.op = .makeFunc (.func f) xs ys) (hp : pin r p = true) (hx : evLs r p xs.toList = some us) (hy : evLs r p ys.toList = some vs) : Yl P o r p (dl (.fn f us vs)) := by
  refine .of hp fun X ρ M a W g hh => ⟨_, ?_, DenD_fn (evLs_den g hh hx) (evLs_den g hh hy)⟩
  simp [execOp, ho, Instr.makeFunc]
  exact ⟨by rw [← Array.toList_map, Array.toArray_toList], by rw [← Array.toList_map, Array.toArray_toList]⟩

/-- A method's value, with a struct bound to it. -/
theorem yl_makeFuncM {f : FuncId} {xs : Array Operand} {x : Operand} {us : List D} (ho : o.op = .makeFunc (.func f) xs #[]) (hxs : xs = #[x]) (hp : pin r p = true) (hx : ev r p x = some (.b (.agg (us.map L.d)))) : Yl P o r p (dl (.mfn f us)) := by
  refine .of hp fun X ρ M a W g hh => ?_
  obtain ⟨ws, h1, h2⟩ := ev_den hx g hh
  have h3 : All2 (DenD P M) us ws := by
    have key : ∀ {us : List D} {ws : List Value}, All2 (DenL P ρ M) (us.map L.d) ws → All2 (DenD P M) us ws := by
      intro us
      induction us with
      | nil => intro ws h; cases ws with | nil => trivial | cons _ _ => exact h.elim
      | cons x r ih => intro ws h; cases ws with | nil => exact h.elim | cons _ _ => exact ⟨h.1, ih h.2⟩
    exact key h2
  refine ⟨.func (.func f) #[.agg ws.toArray] #[], by simp [execOp, ho, hxs, h1, Instr.makeFunc], ?_⟩
  refine .mfn f us ws (All2.length h3).symm (fun i => ws.getD i Go.undef) (fun i x hx => ?_) (fun i x hx => ?_)
  · obtain ⟨u, h1, _⟩ := All2.get h3 hx; simp [List.getD_eq_getElem?_getD, h1]
  · obtain ⟨u, h1, h2⟩ := All2.get h3 hx; simpa [List.getD_eq_getElem?_getD, h1] using h2

def evCs (r : St) (p : Path) : List Operand → Option (List C)
  | [] => some []
  | x :: q => match ev r p x, evCs r p q with
    | some (.b (.l (.d y))), some l => some (.d y :: l)
    | some (.b (.l (.ptr id off))), some l => some (.ptr id off :: l)
    | _, _ => none
theorem evCs_den (g : Gam P X ρ M s a W) (hp : holds s.gv p) : ∀ {l : List Operand} {ds : List C}, evCs s p l = some ds → All2 (DenC P ρ M) ds (l.map a.eval)
  | [], ds, h => by simp [evCs] at h; subst h; trivial
  | x :: r, ds, h => by
    simp only [evCs] at h
    split at h
    · rename_i y l hx hl
      simp at h; subst h
      exact ⟨ev_den hx g hp, evCs_den g hp hl⟩
    · rename_i y l hx hl
      simp at h; subst h
      exact ⟨ev_den hx g hp, evCs_den g hp hl⟩
    · simp at h
theorem yl_makeFuncO {f : FuncId} {xs ys : Array Operand} {us vs : List C} (ho : o.op = .makeFunc (.func f) xs ys) (hp : pin r p = true) (hx : evCs r p xs.toList = some us) (hy : evCs r p ys.toList = some vs) : Yl P o r p (.b (.l (.ofn f us vs))) := by
  refine .of hp fun X ρ M a W g hh => ⟨_, ?_, ⟨xs.toList.map a.eval, ys.toList.map a.eval, rfl, evCs_den g hh hx, evCs_den g hh hy⟩⟩
  simp [execOp, ho, Instr.makeFunc]
  exact ⟨by rw [← Array.toList_map, Array.toArray_toList], by rw [← Array.toList_map, Array.toArray_toList]⟩

/-- What a path tells. -/
def facts (gv : List (Nat × Path × Bool)) : Path → Prop
  | [] => True
  | (t, b) :: q => (match look t gv with | some (_, x) => x = b | none => True) ∧ facts gv q
theorem facts_of {gv : List (Nat × Path × Bool)} : ∀ {p : Path}, holds gv p → facts gv p
  | [], _ => trivial
  | (t, b) :: q, h => by
    refine ⟨?_, facts_of fun t' b' hm => h t' b' (List.mem_cons_of_mem _ hm)⟩
    obtain ⟨q', x, h1, h2⟩ := h t b List.mem_cons_self
    rw [h1]; exact h2
/-- Under guards one may lean on what they tell. -/
theorem Yl.given (hp : pin r p = true) (h : facts r.gv p → Yl P o r p v) : Yl P o r p v := fun X ρ M s a W K Q g hs hh hK =>
  h (facts_of ((hs.holds (pin_mem hp)).2 hh)) X ρ M s a W K Q g hs hh hK

/-- A value that hangs on no memory. -/
def scalar : A → Bool
  | .b (.l (.d (.int _ _))) => true
  | .b (.l (.d (.bool _))) => true
  | .b (.l (.d (.str _))) => true
  | _ => false
theorem scalar_den {v : A} {ρ' : Rho} {M' : Imm} (h : scalar v = true) {x : Value} (d : DenA P ρ M v x) : DenA P ρ' M' v x := by
  unfold scalar at h
  split at h
  · cases den_inv d; exact .int _ _
  · cases den_inv d; exact .bool _
  · cases den_inv d; exact .str _
  · cases h

/-- A block of one's own, lent. -/
theorem Yl.lend (id : Nat) (hf : freeze id r = some s') (hp : pin r p = true) (hs : scalar v = true) (hy : Yl P o s' p v) (hgv : s'.gv = r.gv) : Yl P o r p v := by
  intro X ρ M s a W K Q g hsub hh hK
  obtain ⟨ρ', M', g'⟩ := ghost_freeze (P := P) (n0 := X.n0) id hf X ρ M a W rfl (g.sub hsub)
  have hh' : holds s'.gv p := by rw [hgv]; exact (hsub.holds (pin_mem hp)).2 hh
  refine hy X ρ' M' s' a W K Q g' (SubS.self g') hh' fun M'' W' x hk _ _ hd => ?_
  exact hK M W' x hk (Imm.le.refl M) (g.kept hk) (scalar_den hs hd)

end Go.Cel

set_option linter.unusedVariables false
set_option linter.unusedSimpArgs false
namespace Go.Cel
variable {P : Program} {T : Nat → Ty} {X : CtxD} {ρ : Rho} {M : Imm} {r s s' : St} {a : Act} {W : World} {p : Path} {o : Oper} {v : A}

/-- AN OPERATION THAT YIELDS one of some values. -/
def YlE (P : Program) (o : Oper) (r : St) (p : Path) (φ : A → Prop) : Prop :=
  ∀ X ρ M s a W (K : Act → World → Prop) (Q : Exit → Act → World → Prop), Gam P X ρ M s a W → SubS r s → holds s.gv p →
    (∀ M' W' x v, φ v → Gam P X ρ M' s a W' → DenA P ρ M' v x → K (a.put o.dst x) W') → o.wp P a W K Q

theorem YlE.of {φ : A → Prop} (hp : pin r p = true) (h : ∀ X ρ M a W, Gam P X ρ M r a W → holds r.gv p → ∃ v, φ v ∧ Yields P ρ M a W o v) : YlE P o r p φ := by
  intro X ρ M s a W K Q g hs hh hK
  have g' := g.sub hs
  obtain ⟨v, hv, x, h1, h2⟩ := h X ρ M a W g' ((hs.holds (pin_mem hp)).2 hh)
  unfold Oper.wp
  rw [h1]
  exact hK M W x v hv g h2

theorem VL_YE {all rest : List Oper} {k : List It} {Q : Post} {φ : A → Prop} (hy : YlE P o s [] φ) (hg : ready all s o = true) (h : ∀ v, φ v → ∃ s', put s o.dst [] v = some s' ∧ VL P X all rest k s' Q) : VL P X all (o :: rest) k s Q := by
  intro ρ M a W g
  refine wpList_do (ready_wanted g hg) (hy X ρ M s a W _ _ g (SubS.self g) (holds_nil _) fun M' W' x v hv g' hd => ?_)
  obtain ⟨s', hp, hV⟩ := h v hv
  exact hV ρ M' _ W' (g'.putS hp ⟨fun _ => hd, fun hh => absurd (holds_nil _) hh⟩ (by simp))

/-- Is a slice nil? -/
theorem yle_nil (hT : TabOK P T) {t t' e : Nat} {x : Operand} {es : List (List D)} (ho : o.op = .binOp .eql t x (.const (.slice none 0 0)) t') (hk : (T t).kd = .slice e) (hx : ev r p x = some (dl (.seq e es))) (hp : pin r p = true) : YlE P o r p fun v => ∃ b, (b = true → es = []) ∧ v = dl (.bool b) := by
  refine .of hp fun X ρ M a W g hh => ?_
  have hd := den_inv (ev_den hx g hh)
  generalize hxe : a.eval x = xv at hd
  have hu := kd_slice hT hk
  have run : ∀ A n c, xv = .slice A n c → ∃ b, (execOp a.eval o).run P W = .ok (.value (.bool b)) W ∧ (b = true → A = none) := fun A n c e => by
    subst e
    have hb : (binOp .eql t (.slice A n c) (.slice none 0 0)).run P W = .ok (.bool A.isNone) W := by
      simp only [binOp]
      simp [run_equal_slice_nil W t e A n c hu]
    refine ⟨A.isNone, ?_, by simp⟩
    have hc : a.eval (.const (.slice none 0 0)) = .slice none 0 0 := rfl
    simp only [execOp, ho, hxe, hc, Sem.run_bind]
    have hg : (eqGuard .eql t x (.const (.slice none 0 0)) (.slice A n c) (.slice none 0 0)).run P W = .ok () W := by simp [eqGuard]
    simp only [hg, hb, Result.andThen_ok, Sem.run_pure]
  cases hd with
  | seq0 _ A c =>
    obtain ⟨b, h1, _⟩ := run _ _ _ rfl
    exact ⟨_, ⟨b, fun _ => rfl, rfl⟩, _, h1, .bool b⟩
  | seq _ _ ad c f hc hcm hb hsz hcell hden =>
    obtain ⟨b, h1, h2⟩ := run _ _ _ rfl
    exact ⟨_, ⟨b, fun e => (by cases h2 e), rfl⟩, _, h1, .bool b⟩

/-- How far does a row go? -/
theorem yle_cap (hT : TabOK P T) {t e id : Nat} {x : Operand} {es : List (List D)} (ho : o.op = .call { callee := .builtin .cap, args := #[x], argTypes := #[t] }) (hk : (T t).kd = .slice e) (hx : ev r p x = some (.b (.l (.orow id)))) (hl : look id r.own = some (.row e es)) (hp : pin r p = true) : YlE P o r p fun v => ∃ c : Nat, es.length ≤ c ∧ c ≤ maxLen ∧ v = dl (.int .i64 (c : Int)) := by
  refine .of hp fun X ρ M a W g hh => ?_
  obtain ⟨hr, A, m, c, hxe⟩ := ev_den hx g hh
  obtain ⟨u, xs, hu, how, _⟩ := g.own _ _ (look_mem hl)
  rw [hr] at hu; simp at hu; subst hu
  have hun := kd_slice hT hk
  have hrun : (execOp a.eval o).run P W = .ok (.value (.int .i64 c)) W := by
    simp [execOp, ho, resolve, invoke, builtin, hxe, Builtin.cap_, run_underlying hun, goInt]
  rcases how.2 with ⟨h2, h3⟩ | ⟨b, cap, cur, h2, _, hh', hcap, hmax, _⟩
  · rw [hxe] at h2; simp at h2
    exact ⟨_, ⟨c, by omega, by simp only [maxLen]; omega, rfl⟩, _, hrun, .int _ _⟩
  · rw [hxe] at h2; simp at h2
    exact ⟨_, ⟨c, by omega, by omega, rfl⟩, _, hrun, .int _ _⟩

/-- Texts, one behind the other. -/
theorem yl_concat (hT : TabOK P T) {t t' : Nat} {x y : Operand} {b c : ByteArray} (ho : o.op = .binOp .add t x y t') (hx : ev r p x = some (dl (.str b))) (hy : ev r p y = some (dl (.str c))) (hp : pin r p = true) (hlen : b.size + c.size ≤ 9223372036854775807) : Yl P o r p (dl (.str (b ++ c))) := by
  refine .of hp fun X ρ M a W g hh => ?_
  have hxe := den_str (ev_den hx g hh)
  have hye := den_str (ev_den hy g hh)
  have hmax : IntKind.i64.max = 9223372036854775807 := by decide
  refine ⟨.string (b ++ c), ?_, .str _⟩
  simp [execOp, ho, hxe, hye, eqGuard, binOp, Op.stringOp, hmax]
  omega

theorem V_condT {c : Operand} {x y : Code} {k : List It} {Q : Post} {b : Bool} (hc : ev s [] c = some (dl (.bool b))) (hb : b = true) (ht : V P X (.c x :: k) s Q) : V P X (.c (.cond c x y) :: k) s Q := V_cond hc (fun _ => ht) fun h => by rw [hb] at h; cases h
theorem V_condF {c : Operand} {x y : Code} {k : List It} {Q : Post} {b : Bool} (hc : ev s [] c = some (dl (.bool b))) (hb : b = false) (ht : V P X (.c y :: k) s Q) : V P X (.c (.cond c x y) :: k) s Q := V_cond hc (fun h => by rw [hb] at h; cases h) fun _ => ht

/-- How long a slice can be. -/
theorem V_lenb {k : List It} {Q : Post} {j : Nat} {t : TypeId} {es : List (List D)} (h : look j s.regs = some ([], dl (.seq t es))) (hv : es.length ≤ maxLen → es.length * P.bytesOf t ≤ room → V P X k s Q) : V P X k s Q := by
  intro ρ M a W g
  obtain ⟨x, _, hd⟩ := look_reg g h
  have hd := den_inv hd
  cases hd with
  | seq0 => exact hv (Nat.zero_le _) (by simp) ρ M a W g
  | seq _ _ ad c f hc hcm hb hsz hcell hden => exact hv (Nat.le_trans hc hcm) hb ρ M a W g

theorem noOwn_bD : ∀ (l : List D), noOwnBs (l.map bD) = true
  | [] => rfl
  | x :: r => by simp [noOwnBs, noOwnB, noOwnL, noOwn_bD r]
theorem noOwn_app : ∀ {l m : List B}, noOwnBs l = true → noOwnBs m = true → noOwnBs (l ++ m) = true
  | [], _, _, h => h
  | x :: r, m, h, h' => by
    simp only [noOwnBs, Bool.and_eq_true] at h
    simp [noOwnBs, h.1, noOwn_app h.2 h']
theorem noOwn_fn {a b : List D} {l : List B} (h : noOwnBs l = true) : noOwnBs (a.map bD ++ (l ++ b.map bD)) = true := noOwn_app (noOwn_bD a) (noOwn_app h (noOwn_bD b))

end Go.Cel

set_option linter.unusedVariables false
set_option linter.unusedSimpArgs false
namespace Go.Cel
variable {P : Program} {T : Nat → Ty} {X : CtxD} {ρ : Rho} {M : Imm} {r s s' : St} {a : Act} {W : World} {p : Path} {o : Oper} {v : A}

theorem tl_build0 (hT : TabOK P T) {t e d n : Nat} (ho : o.op = .buildSlice t 0 #[]) (hd : o.dst = some d) (hz : Nat.blt d r.sz = true) (hk : (T t).kd = .slice e) (he : (T e).kd.known = true) : Tl P o (recNew r d (.orow n) n (.row e []) []) := by
  refine tl_new hd hz fun X ρ M s a W g _ _ => ?_
  have ht := hT e he
  have hrun : (Instr.buildSlice t 0 #[]).run P W = .ok (.slice (some ⟨W.heap.size, 0, none⟩) 0 0) (W.alloc (.cells #[] e)) := by
    simp [Instr.buildSlice, run_underlying (kd_slice hT hk), ht.run_size, Instr.fill, newRow]
    have h0 : ∀ f : Nat → Value, Array.map f (Array.range 0) = #[] := fun f => by apply Array.eq_empty_of_size_eq_zero; simp
    rw [h0]
  refine ⟨.slice (some ⟨W.heap.size, 0, none⟩) 0 0, W.alloc (.cells #[] e), ?_, rfl, rfl, rfl, by simp, fun j hj _ => heap_alloc_old W _ hj, .slice (some ⟨W.heap.size, 0, none⟩) 0 0, fun k hk => .inl (by simp [gOf] at hk; omega), fun ρ' _ hn => ⟨⟨_, [], hn, ⟨by simp, .inr ⟨W.heap.size, 0, #[], rfl, Nat.zero_le _, heap_alloc_new W _, Nat.zero_le _, Nat.zero_le _, by simp, by simp⟩⟩, ⟨by simp, by simp⟩, by simp⟩, ⟨hn, _, _, _, rfl⟩⟩⟩
  simp [execOp, ho, hrun]

/-- nil is a row of one's own, too, with nothing in it. -/
theorem ghost_nilrow {n0 : Nat} (d : Nat) (e : Nat) {R : List (Nat × Path × A)} {O : List (Nat × Blk)} {n z : Nat} {gv : List (Nat × Path × Bool)} {as : Path} (h : look d R = some ([], dl .nilsl)) (hg : look d gv = none) :
    Ghost P n0 ⟨R, O, n, gv, as, z⟩ ⟨(d, [], .b (.l (.orow n))) :: R, (n, .row e []) :: O, n + 1, gv, as, z⟩ := by
  intro X ρ M a W hX g
  have hfr := g.fresh n (Nat.le_refl _)
  have hle := Rho.le_add (v := .slice none 0 0) hfr
  have hnew : (ρ.add n (.slice none 0 0)) n = some (.slice none 0 0) := by simp [Rho.add]
  have g1 := (g.raise (m := n + 1) (Nat.le_succ n)).swap (del := []) (n := n) (b := .row e []) (hv := .slice none 0 0) hfr (Nat.lt_succ_self n) (W' := W) rfl rfl rfl (Nat.le_refl _) (fun _ _ _ => rfl) (fun k hk => by simp [gOf] at hk)
    ⟨_, [], hnew, by simpa using World.ownsRow_nil W 0 e _, ⟨by simp, by simp⟩, by simp⟩
  rw [remP_nil] at g1
  obtain ⟨x, h1, h2⟩ := look_reg g h
  have hx : x = .slice none 0 0 := by cases den_inv h2; rfl
  subst hx
  refine ⟨_, M, ⟨g1.toMem, fun k p v hk => ?_, fun k p v hm => ?_, g1.gv, g1.wfg, g1.asm, g1.defers, g1.sz⟩⟩
  · simp only [look_cons] at hk
    by_cases e' : d = k
    · subst e'
      simp at hk
      obtain ⟨rfl, rfl⟩ := hk
      exact ⟨_, h1, fun _ => ⟨hnew, _, _, _, rfl⟩, fun hh => absurd (holds_nil _) hh⟩
    · simp [e'] at hk
      exact g1.regs k p v hk
  · rcases List.mem_cons.1 hm with e' | hm
    · cases e'; intro t b hh; simp at hh
    · exact g1.wfr k p v hm

end Go.Cel
