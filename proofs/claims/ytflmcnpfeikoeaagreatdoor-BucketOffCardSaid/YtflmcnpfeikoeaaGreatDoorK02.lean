/- CelF: runs of the evaluator: a goal about code becomes a goal about where the evaluator stops. -/
import Derived.Test.YtflmcnpfeikoeaaGreatDoorK01
import Derived.Deep.LoopGhost
set_option linter.unusedVariables false
set_option linter.unusedSimpArgs false
namespace Go.Cel
variable {P : Program} {T : Nat → Ty} {X : CtxD} {ρ : Rho} {M : Imm} {s s' : St} {a : Act} {W : World} {p : Path} {o : Oper} {v : A}

def upd (id : Nat) (b : Blk) (l : List (Nat × Blk)) : List (Nat × Blk) := l.map fun q => bif Nat.beq q.1 id then (q.1, b) else q
theorem updGo_eq {id : Nat} {b : Blk} {k : List (Nat × Blk) → Option St} : ∀ (l acc : List (Nat × Blk)), updGo id b k l acc = k (acc.reverse ++ upd id b l)
  | [], acc => by simp [updGo, revGo_eq, upd]
  | (j, c) :: r, acc => by
    simp only [updGo]
    cases hb : Nat.beq j id <;> simp [updGo_eq r, upd, hb]
theorem upd_mem {id i : Nat} {b c : Blk} {l : List (Nat × Blk)} (h : (i, c) ∈ upd id b l) : (i = id ∧ c = b) ∨ (i ≠ id ∧ (i, c) ∈ l) := by
  unfold upd at h
  obtain ⟨⟨j, d⟩, hm, he⟩ := List.mem_map.1 h
  cases hb : Nat.beq j id with
  | true =>
    simp [hb] at he
    exact .inl ⟨he.1.symm.trans (Nat.eq_of_beq_eq_true hb), he.2.symm⟩
  | false =>
    simp [hb] at he
    obtain ⟨rfl, rfl⟩ := he
    exact .inr ⟨fun e => by subst e; simp [Nat.beq_refl] at hb, hm⟩

theorem holds_nil (gv : List (Nat × Path × Bool)) : holds gv [] := fun _ _ h => by simp at h

theorem evE_wp (hT : TabOK P T) (h : evE T s o = some s') (g : Gam P X ρ M s a W) {next : Act → World → Prop} {Q : Exit → Act → World → Prop}
    (hn : ∀ ρ M a W, Gam P X ρ M s' a W → next a W) : o.wp P a W next Q := by
  unfold evE at h
  split at h
  · rename_i t ho
    cases hk : (T t).kd.known with
    | false => simp [hk] at h
    | true =>
      obtain ⟨R, O, n, gv, m, z⟩ := s
      simp only [hk, cond_true, zeroGo_eq] at h
      have ht := hT t hk
      obtain ⟨i, zv, hi, _, _, hz, hzd⟩ := ht.info
      have hr : (execOp a.eval o).run P W = .ok (.value (.pointer (some ⟨W.heap.size, 0, none⟩))) { W with heap := W.heap.push (.cells zv.cells t) } := by
        simp [execOp, ho, Instr.alloc, zeroValue, typeInfo, hi, hz, newVar, newRow]
      unfold Oper.wp
      rw [hr]
      have g1 := g.newBlk (ob := .cells zv.cells t) (hv := .pointer (some ⟨W.heap.size, 0, none⟩)) (b := .cells ((T t).zero.map L.d) t) rfl rfl
        ⟨W.heap.size, zv.cells.toList, by simp [Rho.add], by simp, by simpa using All2_d (hzd M)⟩ rfl
      have g2 := g1.putS h (x := .pointer (some ⟨W.heap.size, 0, none⟩)) ⟨fun _ => ⟨_, by simp [Rho.add], rfl⟩, fun hh => absurd (holds_nil _) hh⟩ (by simp)
      exact hn _ _ _ _ g2
  · rename_i t x ho
    split at h
    · rename_i u hu
      split at h
      · rename_i cs R O n gv m z hc
        have hd := cellsA_den hc (ev_den hu g (holds_nil _))
        have hr : (execOp a.eval o).run P W = .ok (.value (.pointer (some ⟨W.heap.size, 0, none⟩))) { W with heap := W.heap.push (.cells (a.eval x).cells t) } := by
          simp [execOp, ho, Instr.box, newVar, newRow]
        unfold Oper.wp
        rw [hr]
        have g1 := g.newBlk (ob := .cells (a.eval x).cells t) (hv := .pointer (some ⟨W.heap.size, 0, none⟩)) (b := .cells cs t) rfl rfl
          ⟨W.heap.size, (a.eval x).cells.toList, by simp [Rho.add], by simp, All2.imp (fun _ _ q => DenL.mono (Rho.le_add (g.fresh _ (Nat.le_refl _))) (Imm.le.refl _) q) hd⟩ rfl
        have g2 := g1.putS h (x := .pointer (some ⟨W.heap.size, 0, none⟩)) ⟨fun _ => ⟨_, by simp [Rho.add], rfl⟩, fun hh => absurd (holds_nil _) hh⟩ (by simp)
        exact hn _ _ _ _ g2
      · simp at h
    · simp at h
  · rename_i t x y ho
    cases hk : (T t).kd.known with
    | false => simp [hk] at h
    | true =>
      simp only [hk, cond_true] at h
      have ht := hT t hk
      split at h
      · rename_i id off u hx hu
        split at h
        · rename_i x0 new cs bt R O n gv m z hc hl
          cases hln : lenL (x0 :: new) (T t).size with
          | false => simp [hln] at h
          | true =>
            simp only [hln, cond_true] at h
            obtain ⟨hb, h2⟩ := writeGo_some h
            rw [updGo_eq] at h2
            obtain ⟨gb, h1, hxe⟩ := ev_den hx g (holds_nil _)
            obtain ⟨gb', vs, h1', hh, hall⟩ := own_cells g hl
            rw [h1] at h1'; simp at h1'; subst h1'
            have hd := cellsA_den hc (ev_den hu g (holds_nil _))
            have hlen := lenL_eq hln
            have hsz : (a.eval y).cells.size = (T t).size := by
              have := All2.length hd; rw [hlen] at this; simpa using this.symm
            have hfit : off + 0 + (a.eval y).cells.toList.length ≤ vs.toArray.size := by
              have h4 := All2.length hall
              have h5 := All2.length hd
              rcases hb with hb | hb
              · simp at hb h5 h4 hlen ⊢; omega
              · cases hb
            have hst := run_storeCells_at P gb off bt (a.eval y).cells.toList 0 vs.toArray W hh hfit (All2.one hd)
            have hr : (execOp a.eval o).run P W = .ok .skip (W.setRow gb (splice off (a.eval y).cells.toList vs).toArray) := by
              have : splice off (a.eval y).cells.toList vs = vs.take off ++ ((a.eval y).cells.toList ++ vs.drop (off + (a.eval y).cells.size)) := by simp [splice]
              simp [execOp, ho, hxe, Instr.storeAt, Instr.sureAddr, storeVar, ht.run_size, hsz, hst, this]
            unfold Oper.wp
            rw [hr]
            show next (a.put o.dst Go.undef) _
            have hW : ∀ j, j ≠ gb → (W.setRow gb (splice off (a.eval y).cells.toList vs).toArray).heap[j]? = W.heap[j]? := fun j hj => setRow_other W gb j _ hj
            have g1 := g.turn (b := .cells cs bt) (b' := .cells (splice off (x0 :: new) cs) bt) (look_mem hl) h1 rfl (W' := W.setRow gb (splice off (a.eval y).cells.toList vs).toArray) rfl rfl rfl (by simp [World.setRow]) hW
              ⟨gb, _, h1, setRow_heap W gb _ _ _ _ hh, All2.splice off hd hall⟩ (O := upd id (.cells (splice off (x0 :: new) cs) bt) O) (fun i c' hic => upd_mem hic)
            cases hdst : o.dst with
            | some d => simp [hdst] at h2
            | none =>
              simp [hdst] at h2
              subst h2
              exact hn _ _ _ _ g1
        · simp at h
      · simp at h
  · simp at h

theorem evOp_wp (hT : TabOK P T) (h : evOp T s [] true o = some s') (g : Gam P X ρ M s a W) {next : Act → World → Prop} {Q : Exit → Act → World → Prop}
    (hn : ∀ ρ M a W, Gam P X ρ M s' a W → next a W) : o.wp P a W next Q := by
  unfold evOp at h
  split at h
  · rename_i v hv
    obtain ⟨x, hr, hd⟩ := evP_yields hT hv g (holds_nil _)
    unfold Oper.wp
    rw [hr]
    exact hn _ _ _ _ (g.putVS h ⟨fun _ => hd, fun hh => absurd (holds_nil _) hh⟩ (by simp))
  · exact evE_wp hT (by simpa using h) g hn

def boolOf : Value → Option Bool
  | .bool z => some z
  | _ => none

/-- What a guard asks of. -/
theorem wanted_guard {all : List Oper} {oj : Oper} {j t : Nat} {b : Bool} {q : Path} {x : Bool} (g : Gam P X ρ M s a W) (hg : o.guard = some (j, b)) (hj : all[j]? = some oj) (ht : oj.dst = some t) (hl : look t s.gv = some (q, x)) :
    (Region.wanted o (yielded all.toArray a.tmps) = true ↔ holds s.gv ((t, b) :: q)) := by
  obtain ⟨y, hy, h1, h2⟩ := g.gv _ _ _ hl
  have hyl : yielded all.toArray a.tmps j = boolOf y := by
    unfold yielded
    simp only [List.getElem?_toArray, hj, Option.bind_some, ht, hy]
    cases y <;> rfl
  unfold Region.wanted
  rw [hg]
  simp only [hyl]
  constructor
  · intro h
    have hyb : y = .bool b := by
      cases y <;> simp [boolOf] at h
      rw [h]
    have hq : holds s.gv q := by
      by_cases hq : holds s.gv q
      · exact hq
      · rw [h2 hq] at hyb; exact absurd hyb (by simp [Go.undef])
    intro t' b' hm
    rcases List.mem_cons.1 hm with e | hm
    · cases e
      refine ⟨q, x, hl, ?_⟩
      have := h1 hq
      rw [hyb] at this; simpa using this.symm
    · exact hq _ _ hm
  · intro h
    obtain ⟨q', x', h3, h4⟩ := h t b List.mem_cons_self
    rw [hl] at h3; cases h3
    have := h1 fun t' b' hm => h t' b' (List.mem_cons_of_mem _ hm)
    rw [this, h4]; simp [boolOf]

theorem dead_not {gv : List (Nat × Path × Bool)} {asm : Path} (ha : holds gv asm) : ∀ {q : Path}, dead asm q = true → ¬ holds gv q
  | [], h => by simp [dead] at h
  | (t, b) :: r, h => by
    intro hq
    simp only [dead, Bool.or_eq_true] at h
    rcases h with h | h
    · obtain ⟨q1, x1, h1, h2⟩ := ha _ _ (memG_mem h)
      obtain ⟨q2, x2, h3, h4⟩ := hq t b List.mem_cons_self
      rw [h1] at h3; cases h3
      rw [h2] at h4; cases b <;> simp at h4
    · exact dead_not ha h fun t' b' hm => hq t' b' (List.mem_cons_of_mem _ hm)

theorem evOp_skip {q : Path} (h : evOp T s q false o = some s') (hq : ¬ holds s.gv q) (hp : ∀ t b, (t, b) ∈ q → look t s.gv ≠ none) (g : Gam P X ρ M s a W) : Gam P X ρ M s' (a.put o.dst Go.undef) W := by
  unfold evOp at h
  split at h
  · exact g.putVS h ⟨fun hh => absurd hh hq, fun _ => rfl⟩ hp
  · simp at h

theorem evOp_wp_path {q : Path} (hT : TabOK P T) (h : evOp T s q false o = some s') (hq : holds s.gv q) (hp : ∀ t b, (t, b) ∈ q → look t s.gv ≠ none) (g : Gam P X ρ M s a W) {next : Act → World → Prop} {Q : Exit → Act → World → Prop}
    (hn : ∀ ρ M a W, Gam P X ρ M s' a W → next a W) : o.wp P a W next Q := by
  unfold evOp at h
  split at h
  · rename_i v hv
    obtain ⟨x, hr, hd⟩ := evP_yields hT hv g hq
    unfold Oper.wp
    rw [hr]
    exact hn _ _ _ _ (g.putVS h ⟨fun _ => hd, fun hh => absurd hq hh⟩ hp)
  · simp at h

theorem wpList_do {all : List Oper} {rest : List Oper} {F : Exit → Act → World → Prop} (hw : Region.wanted o (yielded all.toArray a.tmps) = true) (h : o.wp P a W (wpList P all.toArray F rest) F) : wpList P all.toArray F (o :: rest) a W := by
  unfold wpList
  rw [if_pos hw]
  exact .inl h
theorem wpList_pass {all : List Oper} {rest : List Oper} {F : Exit → Act → World → Prop} (hw : ¬ Region.wanted o (yielded all.toArray a.tmps) = true) (h : wpList P all.toArray F rest (a.put o.dst Go.undef) W) : wpList P all.toArray F (o :: rest) a W := by
  unfold wpList
  rw [if_neg hw]
  exact h

theorem step_sound (hT : TabOK P T) {all rest : List Oper} {F : Exit → Act → World → Prop} (h : step T all s o = some s') (hn : ∀ ρ M a W, Gam P X ρ M s' a W → wpList P all.toArray F rest a W) (g : Gam P X ρ M s a W) : wpList P all.toArray F (o :: rest) a W := by
  unfold step at h
  split at h
  · rename_i hg
    exact wpList_do (by simp [Region.wanted, hg]) (evOp_wp hT h g hn)
  · rename_i j b hg
    split at h
    · rename_i oj hj
      split at h
      · rename_i t ht
        split at h
        · rename_i q x hl
          have hw := wanted_guard g hg hj ht hl
          have hkeys : ∀ t' b', (t', b') ∈ (t, b) :: q → look t' s.gv ≠ none := by
            intro t' b' hm
            rcases List.mem_cons.1 hm with e | hm
            · cases e; simp [hl]
            · exact g.wfg _ _ _ (look_mem hl) _ _ hm
          cases hd : dead s.asm ((t, b) :: q) with
          | true =>
            simp only [hd, cond_true] at h
            refine wpList_pass (fun hh => dead_not g.asm hd (hw.1 hh)) ?_
            exact hn _ _ _ _ (g.putS h ⟨fun _ => rfl, fun hh => absurd (holds_nil _) hh⟩ (by simp))
          | false =>
            simp only [hd, cond_false] at h
            cases hc : covers s.asm [] ((t, b) :: q) with
            | true =>
              simp only [hc, cond_true] at h
              exact wpList_do (hw.2 (holds_covers hc g.asm (holds_nil _))) (evOp_wp hT h g hn)
            | false =>
              simp only [hc, cond_false] at h
              by_cases hh : holds s.gv ((t, b) :: q)
              · exact wpList_do (hw.2 hh) (evOp_wp_path hT h hh hkeys g hn)
              · exact wpList_pass (fun hx => hh (hw.1 hx)) (hn _ _ _ _ (evOp_skip h hh hkeys g))
        · simp at h
      · simp at h
    · simp at h

end Go.Cel

set_option linter.unusedVariables false
set_option linter.unusedSimpArgs false
namespace Go.Cel
variable {P : Program} {T : Nat → Ty} {X : CtxD} {ρ : Rho} {M : Imm} {s s' : St} {a : Act} {W : World} {p : Path} {o : Oper} {v : A}

def inBlk (id : Nat) (next : Act → World → Prop) (Q : Exit → Act → World → Prop) : Exit → Act → World → Prop
  | .exit j, a, w => if j = id then next a w else Q (.exit j) a w
  | e, a, w => Q e a w

/-- What is to hold on the ways out of what is left. -/
def konts (P : Program) (X : CtxD) (F : Exit → Act → World → Prop) : List It → (Act → World → Prop) × (Exit → Act → World → Prop)
  | [] => (F .normal, F)
  | .c c :: k => (fun a w => c.wp P (Exit.then (konts P X F k).1 (konts P X F k).2) a w, (konts P X F k).2)
  | .blk id :: k => ((konts P X F k).1, inBlk id (konts P X F k).1 (konts P X F k).2)
  | .stop R :: k => (fun a w => ∃ ρ M s, Gam P X ρ M s a w ∧ R s, (konts P X F k).2)

abbrev Post := Exit → St → Prop
def lift (P : Program) (X : CtxD) (Q : Post) : Exit → Act → World → Prop := fun e a W => X.F e a W ∨ ∃ ρ M s, Gam P X ρ M s a W ∧ Q e s

def V (P : Program) (X : CtxD) (k : List It) (s : St) (Q : Post) : Prop :=
  ∀ ρ M a W, Gam P X ρ M s a W → (konts P X (lift P X Q) k).1 a W
def VL (P : Program) (X : CtxD) (all ops : List Oper) (k : List It) (s : St) (Q : Post) : Prop :=
  ∀ ρ M a W, Gam P X ρ M s a W → wpList P all.toArray (Exit.then (konts P X (lift P X Q) k).1 (konts P X (lift P X Q) k).2) ops a W
abbrev VO (P : Program) (X : CtxD) (o : Out) (Q : Post) : Prop :=
  match o with
  | ⟨1, _, _, _, s⟩ => Q .normal s
  | ⟨2, _, _, _, s⟩ => Q .ret s
  | ⟨3, all, ops, k, s⟩ => VL P X all ops k s Q
  | ⟨4, _, _, k, s⟩ => V P X k s Q
  | ⟨5, _, _, [.c (.exit id)], s⟩ => Q (.exit id) s
  | ⟨6, _, _, .stop R :: _, s⟩ => R s
  | _ => False

def cleanP (bad : List (Nat × Unit)) : List (Nat × Path × A) → List (Nat × Path × A)
  | [] => []
  | (d, [], v) :: r => match look d bad with
    | none => (d, [], v) :: cleanP bad r
    | some _ => cleanP bad r
  | (d, _ :: _, _) :: r => cleanP ((d, ()) :: bad) r

theorem clean_back (k : List (Nat × Path × A) → Out) : ∀ (r l : List (Nat × Path × A)), clean.back k r l = k (r.reverse ++ l)
  | [], l => by simp [clean.back]
  | x :: r, l => by simp [clean.back, clean_back k r]
theorem clean_eq : ∀ (l : List (Nat × Path × A)) (bad : List (Nat × Unit)) (acc : List (Nat × Path × A)) (k : List (Nat × Path × A) → Out), clean bad acc k l = k (acc.reverse ++ cleanP bad l)
  | [], bad, acc, k => by simp [clean, cleanP, clean_back]
  | (d, [], v) :: r, bad, acc, k => by
    simp only [clean, cleanP]
    cases look d bad with
    | none => simp [clean_eq r]
    | some _ => simp [clean_eq r]
  | (d, _ :: _, _) :: r, bad, acc, k => by simp [clean, cleanP, clean_eq r]
theorem cleanP_look {k : Nat} {p : Path} {v : A} : ∀ {l : List (Nat × Path × A)} {bad : List (Nat × Unit)}, look k (cleanP bad l) = some (p, v) → p = [] ∧ look k bad = none ∧ look k l = some ([], v)
  | [], bad, h => by simp [cleanP, look] at h
  | (d, [], u) :: r, bad, h => by
    simp only [cleanP] at h
    cases hb : look d bad with
    | none =>
      simp only [hb, look_cons] at h
      by_cases e : d = k
      · subst e; simp at h; obtain ⟨rfl, rfl⟩ := h; exact ⟨rfl, hb, by simp [look_cons]⟩
      · simp [e] at h
        obtain ⟨h1, h2, h3⟩ := cleanP_look h
        exact ⟨h1, h2, by simp [look_cons, e, h3]⟩
    | some _ =>
      simp only [hb] at h
      obtain ⟨h1, h2, h3⟩ := cleanP_look h
      have e : d ≠ k := fun e => by subst e; rw [hb] at h2; cases h2
      exact ⟨h1, h2, by simp [look_cons, e, h3]⟩
  | (d, _ :: _, _) :: r, bad, h => by
    simp only [cleanP] at h
    obtain ⟨h1, h2, h3⟩ := cleanP_look h
    rw [look_cons] at h2
    have e : d ≠ k := fun e => by subst e; simp at h2
    simp [e] at h2
    exact ⟨h1, h2, by simp [look_cons, e, h3]⟩

theorem Gam.clean {R : List (Nat × Path × A)} {O : List (Nat × Blk)} {m z : Nat} {gv : List (Nat × Path × Bool)} {as : Path} (g : Gam P X ρ M ⟨R, O, m, gv, as, z⟩ a W) : Gam P X ρ M ⟨cleanP [] R, O, m, [], [], z⟩ a W := by
  refine ⟨⟨g.os, g.tape, g.output, g.size, g.old, g.imm, g.mono, g.newM, g.rle, g.nle, g.rfr, g.fresh, g.own, g.mine, g.dist⟩, ?_, ?_, ?_, ?_, holds_nil _, g.defers, g.sz⟩
  · intro k p v h
    obtain ⟨rfl, _, h3⟩ := cleanP_look h
    obtain ⟨x, h4, h5, h6⟩ := g.regs k [] v h3
    exact ⟨x, h4, fun _ => h5 (holds_nil _), fun hh => absurd (holds_nil _) hh⟩
  · intro k p v hm t b htb
    have : ∀ {l : List (Nat × Path × A)} {bad : List (Nat × Unit)}, (k, p, v) ∈ cleanP bad l → p = [] := by
      intro l
      induction l with
      | nil => intro bad h; simp [cleanP] at h
      | cons e r ih =>
        obtain ⟨d, q, u⟩ := e
        intro bad h
        cases q with
        | nil =>
          simp only [cleanP] at h
          cases hb : look d bad with
          | none =>
            simp only [hb] at h
            rcases List.mem_cons.1 h with e | h
            · cases e; rfl
            · exact ih h
          | some _ => simp only [hb] at h; exact ih h
        | cons _ _ => simp only [cleanP] at h; exact ih h
    rw [this hm] at htb; simp at htb
  · intro k q x h; simp [look] at h
  · intro k q x h; simp at h

theorem runL_sound (hT : TabOK P T) {all : List Oper} {k : List It} {Q : Post} {done : St → Out} (hd : ∀ s, VO P X (done s) Q → ∀ ρ M a W, Gam P X ρ M s a W → (konts P X (lift P X Q) k).1 a W) :
    ∀ (ops : List Oper) (s : St), VO P X (runL T all done (fun r s => ⟨3, all, r, k, s⟩) ops s) Q → VL P X all ops k s Q
  | [], s, h => fun ρ M a W g => hd s (by simpa [runL] using h) ρ M a W g
  | o :: r, s, h => by
    simp only [runL] at h
    split at h
    · rename_i R O n gv m z hs
      intro ρ M a W g
      exact step_sound hT hs (fun ρ M a W g => runL_sound hT hd r _ h ρ M a W g) g
    · exact h

theorem konts_exit {F : Exit → Act → World → Prop} {id : Nat} : ∀ {k k' : List It}, leave id k = some k' → (konts P X F k).2 (.exit id) = (konts P X F k').1
  | [], k', h => by simp [leave] at h
  | .blk j :: k, k', h => by
    simp only [leave] at h
    cases hb : Nat.beq j id with
    | true =>
      simp [hb] at h; subst h
      funext a w
      simp [konts, inBlk, (Nat.eq_of_beq_eq_true hb)]
    | false =>
      simp only [hb, cond_false] at h
      have hne : id ≠ j := fun e => by subst e; simp [Nat.beq_refl] at hb
      rw [← konts_exit h]
      funext a w
      simp [konts, inBlk, hne]
  | .c c :: k, k', h => by
    simp only [leave] at h
    rw [← konts_exit h]
    rfl
  | .stop R :: k, k', h => by
    simp only [leave] at h
    rw [← konts_exit h]
    rfl

theorem konts_ret {F : Exit → Act → World → Prop} : ∀ (k : List It), (konts P X F k).2 .ret = F .ret
  | [] => rfl
  | .c c :: k => konts_ret k
  | .blk id :: k => konts_ret k
  | .stop R :: k => konts_ret k

theorem exec_sound (hT : TabOK P T) {Q : Post} : ∀ (n : Nat) (k : List It) (s : St), VO P X (exec T n k s) Q → V P X k s Q
  | 0, k, s, h => by simp [exec, VO] at h
  | n + 1, [], s, h => fun ρ M a W g => .inr ⟨ρ, M, s, g, by simpa [exec, VO] using h⟩
  | n + 1, .blk id :: k, s, h => fun ρ M a W g => exec_sound hT n k s (by simpa [exec] using h) ρ M a W g
  | n + 1, .stop R :: k, s, h => fun ρ M a W g => ⟨ρ, M, s, g, by simpa [exec, VO] using h⟩
  | n + 1, .c c :: k, s, h => by
    intro ρ M a W g
    simp only [konts]
    cases c with
    | seq x y =>
      have := exec_sound hT n (.c x :: .c y :: k) s (by simpa [exec] using h) ρ M a W g
      exact wp_seq (wp_mono this fun e a w q => by cases e <;> exact q)
    | skip => exact wp_skip (exec_sound hT n k s (by simpa [exec] using h) ρ M a W g)
    | ret =>
      refine wp_ret ?_
      show (konts P X (lift P X Q) k).2 .ret a W
      rw [konts_ret]
      exact .inr ⟨ρ, M, s, g, by simpa [exec, VO] using h⟩
    | block id x =>
      have := exec_sound hT n (.c x :: .blk id :: k) s (by simpa [exec] using h) ρ M a W g
      refine wp_block (wp_mono this fun e a w q => ?_)
      cases e <;> first
        | exact q
        | (simp only [Exit.then, konts, inBlk, Exit.inBlock] at q ⊢; exact q)
    | exit id =>
      refine wp_exit ?_
      show (konts P X (lift P X Q) k).2 (.exit id) a W
      simp only [exec] at h
      split at h
      · rename_i k' hk
        rw [konts_exit hk]
        exact exec_sound hT n k' s h ρ M a W g
      · rename_i hk
        have e : ∀ {k : List It}, leave id k = none → (konts P X (lift P X Q) k).2 (.exit id) = lift P X Q (.exit id) := by
          intro k
          induction k with
          | nil => intro _; rfl
          | cons x k ih =>
            intro hk
            cases x with
            | c c => exact ih (by simpa [leave] using hk)
            | stop R => exact ih (by simpa [leave] using hk)
            | blk j =>
              simp only [leave] at hk
              cases hb : Nat.beq j id with
              | true => simp [hb] at hk
              | false =>
                simp only [hb, cond_false] at hk
                have hne : id ≠ j := fun e => by subst e; simp [Nat.beq_refl] at hb
                rw [← ih hk]
                funext a w
                simp [konts, inBlk, hne]
        rw [e hk]
        exact .inr ⟨ρ, M, s, g, h⟩
    | region id ops draw =>
      cases draw with
      | true => exact (by simpa [exec, VO] using h : V P X (.c (.region id ops true) :: k) s Q) ρ M a W g
      | false =>
        simp only [exec] at h
        have := runL_sound (X := X) (Q := Q) hT (k := k) (fun s' hs ρ M a W g => by
          obtain ⟨R, O, m, gv, as, z⟩ := s'
          simp only [clean_eq] at hs
          exact exec_sound hT n k _ (by simpa using hs) ρ M a W g.clean) ops.toList s h ρ M a W g
        refine wp_region_list ?_
        simpa using this
    | _ => exact (by simpa [exec, VO] using h : V P X (.c _ :: k) s Q) ρ M a W g

theorem resume_sound (hT : TabOK P T) {Q : Post} (n : Nat) {all r : List Oper} {k : List It} {s : St} (h : VO P X (resume T n all r k s) Q) : VL P X all r k s Q :=
  runL_sound hT (fun s' hs ρ M a W g => by
    obtain ⟨R, O, m, gv, as, z⟩ := s'
    simp only [clean_eq] at hs
    exact exec_sound hT n k _ (by simpa using hs) ρ M a W g.clean) r s h

/-- THE RULES BY WHICH A WALK GOES ON: 'refine V_go hT rfl ?_', 'refine VL_go hT rfl ?_'. -/
theorem V_go (hT : TabOK P T) {n : Nat} {Q : Post} {k k' : List It} {s s' : St} {t : Nat} {all ops : List Oper} (h : exec T n k s = ⟨t, all, ops, k', s'⟩) (hv : VO P X ⟨t, all, ops, k', s'⟩ Q) : V P X k s Q :=
  exec_sound hT n k s (h ▸ hv)
theorem VL_go (hT : TabOK P T) {n : Nat} {Q : Post} {all0 r : List Oper} {k k' : List It} {s s' : St} {t : Nat} {all ops : List Oper} (h : resume T n all0 r k s = ⟨t, all, ops, k', s'⟩) (hv : VO P X ⟨t, all, ops, k', s'⟩ Q) : VL P X all0 r k s Q :=
  resume_sound hT n (h ▸ hv)

end Go.Cel

set_option linter.unusedVariables false
set_option linter.unusedSimpArgs false
namespace Go.Cel
variable {P : Program} {T : Nat → Ty} {X : CtxD} {ρ : Rho} {M : Imm} {s s' : St} {a : Act} {W : World} {p : Path} {o : Oper} {v : A}

/-- What one state says another one says, too. -/
def Ghost (P : Program) (n0 : Nat) (s s' : St) : Prop := ∀ X ρ M a W, X.n0 = n0 → Gam P X ρ M s a W → ∃ ρ' M', Gam P X ρ' M' s' a W
theorem Ghost.refl (n0 : Nat) (s : St) : Ghost P n0 s s := fun _ ρ M _ _ _ g => ⟨ρ, M, g⟩
theorem Ghost.trans {n0 : Nat} {s1 s2 s3 : St} (h : Ghost P n0 s1 s2) (h' : Ghost P n0 s2 s3) : Ghost P n0 s1 s3 := fun X ρ M a W hX g => by
  obtain ⟨_, _, g1⟩ := h X ρ M a W hX g
  exact h' X _ _ a W hX g1
theorem V_ghost {n0 : Nat} (hX : X.n0 = n0) {k : List It} {Q : Post} (h : Ghost P n0 s s') (hv : V P X k s' Q) : V P X k s Q := fun ρ M a W g => by
  obtain ⟨_, _, g1⟩ := h X ρ M a W hX g
  exact hv _ _ a W g1
theorem VL_ghost {n0 : Nat} (hX : X.n0 = n0) {all ops : List Oper} {k : List It} {Q : Post} (h : Ghost P n0 s s') (hv : VL P X all ops k s' Q) : VL P X all ops k s Q := fun ρ M a W g => by
  obtain ⟨_, _, g1⟩ := h X ρ M a W hX g
  exact hv _ _ a W g1

/-- Which blocks are handed over. -/
def handed (ρ : Rho) (o : List (Nat × Blk)) (g : Nat) : Prop := ∃ id b v, (id, b) ∈ o ∧ ρ id = some v ∧ gOf v = some g

/-- A CONTRACT: called with these values, with these blocks handed over, f returns what R tells. -/
def Con (P : Program) (f : FuncId) (o : List (Nat × Blk)) (nx : Nat) (args : List B) (R : A → List (Nat × Blk) → Nat → Prop) : Prop :=
  (∀ (xs : Array Value) (W : World), (callFunc f xs).run P W = .ok (.enter f xs) W) ∧
  ∀ (W : World) (ρ : Rho) (M : Imm) (vs : List Value), Mem P ⟨W, handed ρ o, M, ρ, nx⟩ ρ M o nx W → All2 (DenB P ρ M) args vs →
    Calls P f vs.toArray W fun e W' => ∃ ρ' M' r v o' nx', e = .returned v ∧ DenA P ρ' M' r v ∧ R r o' nx' ∧ Mem P ⟨W, handed ρ o, M, ρ, nx⟩ ρ' M' o' nx' W'

def noOwnL : L → Bool
  | .d _ => true
  | _ => false
def noOwnLs : List L → Bool
  | [] => true
  | .d _ :: r => noOwnLs r
  | _ :: _ => false
def noOwnB : B → Bool
  | .l x => noOwnL x
  | .agg cs => noOwnLs cs
def noOwnBs : List B → Bool
  | [] => true
  | x :: r => noOwnB x && noOwnBs r
/-- Nothing of one's own is in a value. -/
def noOwn : A → Bool
  | .b x => noOwnB x
  | .tup vs => noOwnBs vs
  | .undef => true

theorem noOwnLs_den {ρ' : Rho} : ∀ {cs : List L} {vs : List Value}, noOwnLs cs = true → All2 (DenL P ρ M) cs vs → All2 (DenL P ρ' M) cs vs
  | [], [], _, _ => trivial
  | .d x :: r, _ :: _, h, g => ⟨g.1, noOwnLs_den (by simpa [noOwnLs] using h) g.2⟩
  | .ptr _ _ :: _, _, h, _ => by simp [noOwnLs] at h
  | .orow _ :: _, _, h, _ => by simp [noOwnLs] at h
  | .optr _ _ _ _ :: _, _, h, _ => by simp [noOwnLs] at h
  | .osl _ _ _ _ :: _, _, h, _ => by simp [noOwnLs] at h
  | .omap _ :: _, _, h, _ => by simp [noOwnLs] at h
  | .ofn _ _ _ :: _, _, h, _ => by simp [noOwnLs] at h
  | [], _ :: _, _, g => g.elim
  | .d _ :: _, [], _, g => g.elim
theorem noOwnB_den {ρ' : Rho} {x : B} {v : Value} (h : noOwnB x = true) (g : DenB P ρ M x v) : DenB P ρ' M x v := by
  cases x with
  | l x => cases x <;> first | exact g | simp [noOwnB, noOwnL] at h
  | agg cs => obtain ⟨vs, h1, h2⟩ := g; exact ⟨vs, h1, noOwnLs_den h h2⟩
theorem noOwnBs_den {ρ' : Rho} : ∀ {cs : List B} {vs : List Value}, noOwnBs cs = true → All2 (DenB P ρ M) cs vs → All2 (DenB P ρ' M) cs vs
  | [], [], _, _ => trivial
  | x :: r, _ :: _, h, g => by
    simp only [noOwnBs, Bool.and_eq_true] at h
    exact ⟨noOwnB_den h.1 g.1, noOwnBs_den h.2 g.2⟩
  | [], _ :: _, _, g => g.elim
  | _ :: _, [], _, g => g.elim
theorem noOwn_den {ρ' : Rho} {x : A} {v : Value} (h : noOwn x = true) (g : DenA P ρ M x v) : DenA P ρ' M x v := by
  cases x with
  | b x => exact noOwnB_den h g
  | tup vs => obtain ⟨ws, h1, h2⟩ := g; exact ⟨ws, h1, noOwnBs_den h h2⟩
  | undef => exact g

/-- A contract of a function that hands back a value and turns nothing. -/
def Pure (P : Program) (f : FuncId) (args : List B) (r : A) : Prop := noOwn r = true ∧ Con P f [] 0 args fun r' _ _ => WkA r' r

/-- The results' values. -/
def resGo (s : St) (T : Nat → Ty) : List ResultVar → List B → Option A
  | [], [x] => some (.b x)
  | [], acc => some (.tup acc.reverse)
  | .tmp t :: r, acc => match look t s.regs with
    | some ([], .b x) => resGo s T r (x :: acc)
    | _ => none
  | .cell t ty :: r, acc => bif (T ty).kd.known then (match look t s.regs with
    | some ([], .b (.l (.ptr id off))) => match look id s.own with
      | some (.cells cs _) => match readL (T ty).kd.agg (T ty).size off cs with
        | some (.b x) => resGo s T r (x :: acc)
        | _ => none
      | _ => none
    | _ => none) else none

theorem look_reg {k : Nat} {x : A} (g : Gam P X ρ M s a W) (h : look k s.regs = some ([], x)) : ∃ y, a.tmps[k]? = some y ∧ DenA P ρ M x y := by
  obtain ⟨y, h1, h2, _⟩ := g.regs _ _ _ h
  exact ⟨y, h1, h2 (holds_nil _)⟩

def resOne (tmps : Array Value) : ResultVar → Sem Value
  | .tmp t => pure (tmps.getD t Go.undef)
  | .cell b t => do loadVar t (← asAddr (tmps.getD b Go.undef))

theorem resGo_run (hT : TabOK P T) (g : Gam P X ρ M s a W) : ∀ {rs : List ResultVar} {acc : List B} {r : A} {ws : List Value}, resGo s T rs acc = some r → All2 (DenB P ρ M) acc ws →
    ∃ us, (rs.mapM (resOne a.tmps)).run P W = .ok us W ∧
      DenA P ρ M r (if h : (ws.reverse ++ us).length = 1 then (ws.reverse ++ us)[0] else .tuple (ws.reverse ++ us).toArray)
  | [], acc, r, ws, h, hw => by
    refine ⟨[], by simp, ?_⟩
    cases acc with
    | nil =>
      cases ws with
      | nil => simp [resGo] at h; subst h; simp [DenA, All2]
      | cons _ _ => exact hw.elim
    | cons x acc =>
      cases ws with
      | nil => exact hw.elim
      | cons w ws =>
        cases acc with
        | nil =>
          cases ws with
          | nil => simp [resGo] at h; subst h; simpa [DenA] using hw.1
          | cons _ _ => exact hw.2.elim
        | cons y acc =>
          have hl := All2.length hw
          simp [resGo] at h; subst h
          cases ws with
          | nil => exact hw.2.elim
          | cons w' ws =>
            rw [dif_neg (by simp)]
            exact ⟨_, rfl, by simpa using All2.reverse hw⟩
  | .tmp t :: rs, acc, r, ws, h, hw => by
    simp only [resGo] at h
    split at h
    · rename_i x hl
      obtain ⟨y, h1, h2⟩ := look_reg g hl
      obtain ⟨us, h3, h4⟩ := resGo_run hT g (ws := y :: ws) h ⟨h2, hw⟩
      refine ⟨y :: us, ?_, by simpa using h4⟩
      have hy : a.tmps.getD t Go.undef = y := by simp [Array.getD_eq_getD_getElem?, h1]
      rw [List.mapM_cons]
      simp only [resOne, hy, Sem.run_bind, Sem.run_pure, Result.andThen_ok, h3]
    · simp at h
  | .cell t ty :: rs, acc, r, ws, h, hw => by
    simp only [resGo] at h
    cases hk : (T ty).kd.known with
    | false => simp [hk] at h
    | true =>
      simp only [hk, cond_true] at h
      split at h
      · rename_i id off hl
        split at h
        · rename_i cs bt ho
          split at h
          · rename_i x hr
            obtain ⟨y, h1, b, h2, h2'⟩ := look_reg g hl
            have hev : ev ⟨[(t, [], .b (.l (.ptr id off)))], s.own, s.nx, [], [], 0⟩ [] (.tmp t) = some (.b (.l (.ptr id off))) := by simp [ev, look, covers]
            have hy : a.tmps.getD t Go.undef = y := by simp [Array.getD_eq_getD_getElem?, h1]
            -- the load, as an operation
            have hld := yields_load (o := ⟨none, .load ty (.tmp t), ty, "", #[], none⟩) (x := .tmp t) (p := []) hT rfl (s := s) (v := .b x) (t := ty) (by
              simp only [evP, hk, cond_true, ev, hl, covers, ho, hr]) g (holds_nil _)
            obtain ⟨u, hu, hd⟩ := hld
            have hu' : (loadVar ty ⟨b, off, none⟩).run P W = .ok u W := by
              have he : a.eval (.tmp t) = .pointer (some ⟨b, off, none⟩) := by rw [reg_eval h1, h2']
              simp only [execOp, he, Instr.loadAt, Instr.sureAddr, Sem.run_bind, Sem.run_pure, Result.andThen_ok] at hu
              cases hq : (loadVar ty ⟨b, off, none⟩).run P W with
              | ok z w => rw [hq] at hu; simp at hu; simp [hu]
              | halt z w => rw [hq] at hu; simp at hu
            obtain ⟨us, h3, h4⟩ := resGo_run hT g (ws := u :: ws) h ⟨hd, hw⟩
            refine ⟨u :: us, ?_, by simpa using h4⟩
            rw [List.mapM_cons]
            simp only [resOne, hy, h2', asAddr, Sem.run_bind, Sem.run_pure, Result.andThen_ok, hu', h3]
          · simp at h
        · simp at h
      · simp at h

/-- At a body's end. -/
def Ends (P : Program) (T : Nat → Ty) (n0 : Nat) (F : Func) (R : A → List (Nat × Blk) → Nat → Prop) (e : Exit) (s : St) : Prop :=
  (e = .normal ∨ e = .ret) ∧ ∃ s' r o', Ghost P n0 s s' ∧ resGo s' T F.results.toList [] = some r ∧ (∀ q ∈ o', q ∈ s'.own) ∧ R r o' s'.nx

def initGo : Nat → List B → List (Nat × Path × A)
  | _, [] => []
  | i, x :: r => (i, [], .b x) :: initGo (i + 1) r

theorem initGo_look : ∀ {args : List B} {i k : Nat} {p : Path} {v : A}, look k (initGo i args) = some (p, v) → p = [] ∧ i ≤ k ∧ ∃ x, args[k - i]? = some x ∧ v = .b x
  | [], i, k, p, v, h => by simp [initGo, look] at h
  | x :: r, i, k, p, v, h => by
    simp only [initGo, look_cons] at h
    by_cases e : i = k
    · subst e; simp at h; obtain ⟨rfl, rfl⟩ := h; exact ⟨rfl, Nat.le_refl _, x, by simp, rfl⟩
    · simp [e] at h
      obtain ⟨h1, h2, y, h3, h4⟩ := initGo_look h
      refine ⟨h1, by omega, y, ?_, h4⟩
      have : k - i = (k - (i + 1)) + 1 := by omega
      rw [this]; simpa using h3
theorem initGo_path : ∀ {args : List B} {i k : Nat} {p : Path} {v : A}, (k, p, v) ∈ initGo i args → p = []
  | [], i, k, p, v, h => by simp [initGo] at h
  | x :: r, i, k, p, v, h => by
    rcases List.mem_cons.1 h with e | h
    · cases e; rfl
    · exact initGo_path h

theorem start_gam {f : FuncId} {F : Func} {o : List (Nat × Blk)} {nx : Nat} {args : List B} (hlen : Nat.ble args.length F.ntmps = true) {C : Ctx} {Fx : Exit → Act → World → Prop} {ρ : Rho} {M : Imm} {vs : List Value} (hm : Mem P C ρ M o nx W) (ha : All2 (DenB P ρ M) args vs) :
    Gam P ⟨C, [], Fx⟩ ρ M ⟨initGo 0 args, o, nx, [], [], F.ntmps⟩ { tmps := vs.toArray ++ Array.replicate (F.ntmps - vs.toArray.size) Go.undef, defers := [] } W := by
  have hl := All2.length ha
  have hle := Nat.le_of_ble_eq_true hlen
  refine ⟨hm, ?_, ?_, ?_, ?_, holds_nil _, rfl, ?_⟩
  · intro k p v hk
    obtain ⟨rfl, _, x, h3, rfl⟩ := initGo_look hk
    obtain ⟨y, h4, h5⟩ := All2.get ha h3
    refine ⟨y, ?_, fun _ => h5, fun hh => absurd (holds_nil _) hh⟩
    simp at h4
    have hlt : k < vs.length := (List.getElem?_eq_some_iff.1 h4).1
    simp [Array.getElem?_append, hlt]
    simpa [hlt] using h4
  · intro k p v hm' t b htb
    rw [initGo_path hm'] at htb; simp at htb
  · intro k q x hk; simp [look] at hk
  · intro k q x hk; simp at hk
  · simp; omega

/-- what a state says at a body's end. -/
def EndsS (P : Program) (T : Nat → Ty) (n0 : Nat) (F : Func) (R : A → List (Nat × Blk) → Nat → Prop) (s : St) : Prop :=
  ∃ s' r o', Ghost P n0 s s' ∧ resGo s' T F.results.toList [] = some r ∧ (∀ q ∈ o', q ∈ s'.own) ∧ R r o' s'.nx
theorem endsS_run (hT : TabOK P T) {n0 : Nat} {F : Func} {R : A → List (Nat × Blk) → Nat → Prop} (hX : X.n0 = n0) (g1 : Gam P X ρ M s a W) (h : EndsS P T n0 F R s) :
    ∃ v ρ2 M2 r o' nx', (results F a.tmps).run P W = .ok v W ∧ DenA P ρ2 M2 r v ∧ R r o' nx' ∧ Mem P X.toCtx ρ2 M2 o' nx' W ∧ a.defers = X.ds := by
  obtain ⟨s2, r, o', hgh, hres, hsub, hR⟩ := h
  obtain ⟨ρ2, M2, g2⟩ := hgh _ _ _ _ _ hX g1
  obtain ⟨us, h3, h4⟩ := resGo_run hT g2 (ws := []) hres trivial
  have hrun : (results F a.tmps).run P W = .ok (if h : us.length = 1 then us[0] else .tuple us.toArray) W := by
    have e : results F a.tmps = (do let vs ← F.results.mapM (resOne a.tmps); pure (if h : vs.size = 1 then vs[0] else .tuple vs) : Sem Value) := by
      unfold results
      congr 1
    rw [e, Array.mapM_eq_mapM_toList]
    simp only [Sem.run_bind, Sem.run_map, h3, Result.andThen_ok, Sem.run_pure]
    simp
  exact ⟨_, ρ2, M2, r, o', s2.nx, hrun, h4, hR, ⟨g2.os, g2.tape, g2.output, g2.size, g2.old, g2.imm, g2.mono, g2.newM, g2.rle, g2.nle, g2.rfr, g2.fresh, fun id b hq => g2.own id b (hsub _ hq), fun id b v k hq => g2.mine id b v k (hsub _ hq),
        fun id b id' b' v v' k hq hq' => g2.dist id b id' b' v v' k (hsub _ hq) (hsub _ hq')⟩, g2.defers⟩

/-- What a contract says of a call's end. -/
def Fin (P : Program) (o : List (Nat × Blk)) (nx : Nat) (R : A → List (Nat × Blk) → Nat → Prop) (W : World) (ρ : Rho) (M : Imm) (e : Ending) (W' : World) : Prop :=
  ∃ ρ' M' r v o' nx', e = .returned v ∧ DenA P ρ' M' r v ∧ R r o' nx' ∧ Mem P ⟨W, handed ρ o, M, ρ, nx⟩ ρ' M' o' nx' W'

theorem con_wp (hT : TabOK P T) {f : FuncId} {F : Func} {c : Code} {o : List (Nat × Blk)} {nx : Nat} {args : List B} {R : A → List (Nat × Blk) → Nat → Prop} (hlen : Nat.ble args.length F.ntmps = true)
    (h : ∀ X, X.n0 = nx → V P X [.c c] ⟨initGo 0 args, o, nx, [], [], F.ntmps⟩ (Ends P T nx F R)) (W : World) (ρ : Rho) (M : Imm) (vs : List Value) (hm : Mem P ⟨W, handed ρ o, M, ρ, nx⟩ ρ M o nx W) (ha : All2 (DenB P ρ M) args vs) :
    c.wp P (bodyPost P F (Fin P o nx R W ρ M)) { tmps := vs.toArray ++ Array.replicate (F.ntmps - vs.toArray.size) Go.undef, defers := [] } W := by
  have g := start_gam (f := f) (F := F) (Fx := fun _ _ _ => False) hlen hm ha
  have := h _ rfl ρ M _ W g
  simp only [konts] at this
  refine wp_mono this fun e a' W' q => ?_
  have q' : lift P ⟨⟨W, handed ρ o, M, ρ, nx⟩, [], fun _ _ _ => False⟩ (Ends P T nx F R) e a' W' := by cases e <;> exact q
  rcases q' with q' | ⟨ρ1, M1, s1, g1, he, hS⟩
  · exact q'.elim
  obtain ⟨v, ρ2, M2, r, o', nx', hrun, hd, hR, hmem, hdef⟩ := endsS_run hT rfl g1 hS
  have fin : a'.defers = [] ∧ ∃ v, (results F a'.tmps).run P W' = .ok v W' ∧ Fin P o nx R W ρ M (.returned v) W' :=
    ⟨hdef, v, hrun, ρ2, M2, r, v, o', nx', rfl, hd, hR, hmem⟩
  rcases he with rfl | rfl <;> exact fin

theorem enter_of {f : FuncId} {F : Func} {c : Code} (hf : P.funcs[f]? = some F) (hb : F.body = some c) (hname : (F.name == "runtime.NumGoroutine") = false) (xs : Array Value) (W : World) : (callFunc f xs).run P W = .ok (.enter f xs) W := by
  simp [callFunc, hf, hb]
  intro hn
  rw [hn] at hname; simp at hname

/-- THE BEGIN OF A WALK. -/
theorem con_intro (hT : TabOK P T) {f : FuncId} {F : Func} {c : Code} (hf : P.funcs[f]? = some F) (hb : F.body = some c) (hname : (F.name == "runtime.NumGoroutine") = false)
    {o : List (Nat × Blk)} {nx : Nat} {args : List B} {R : A → List (Nat × Blk) → Nat → Prop} (hlen : Nat.ble args.length F.ntmps = true)
    (h : ∀ X, X.n0 = nx → V P X [.c c] ⟨initGo 0 args, o, nx, [], [], F.ntmps⟩ (Ends P T nx F R)) : Con P f o nx args R :=
  ⟨enter_of hf hb hname, fun W ρ M vs hm ha => calls_of_wp hf hb (con_wp (f := f) hT hlen h W ρ M vs hm ha)⟩

/-- THE WAYS OF A TEST. -/
theorem V_cond {c : Operand} {x y : Code} {k : List It} {Q : Post} {b : Bool} (hc : ev s [] c = some (dl (.bool b))) (ht : b = true → V P X (.c x :: k) s Q) (hf : b = false → V P X (.c y :: k) s Q) : V P X (.c (.cond c x y) :: k) s Q := by
  intro ρ M a W g
  have := den_bool (ev_den hc g (holds_nil _))
  exact wp_cond_split this (fun h => ht h ρ M a W g) (fun h => hf h ρ M a W g)

/-- A GUARD, DECIDED. -/
theorem VL_guard {all ops : List Oper} {k : List It} {Q : Post} (t : Nat) {q : Path} {x : Bool} (hl : look t s.gv = some (q, x)) (ht : x = true → VL P X all ops k { s with asm := (t, true) :: s.asm } Q) (hf : x = false → VL P X all ops k { s with asm := (t, false) :: s.asm } Q) : VL P X all ops k s Q := by
  intro ρ M a W g
  have fin : ∀ b, x = b → Gam P X ρ M { s with asm := (t, b) :: s.asm } a W := fun b hb => by
    refine ⟨g.toMem, g.regs, g.wfr, g.gv, g.wfg, ?_, g.defers, g.sz⟩
    intro t' b' hm
    rcases List.mem_cons.1 hm with e | hm
    · cases e; exact ⟨q, x, hl, hb⟩
    · exact g.asm t' b' hm
  cases hx : x with
  | true => exact ht hx ρ M a W (fin true hx)
  | false => exact hf hx ρ M a W (fin false hx)

/-- THE BEGIN OF A WALK of a function that turns nothing. -/
theorem pure_intro (hT : TabOK P T) {f : FuncId} {F : Func} {c : Code} (hf : P.funcs[f]? = some F) (hb : F.body = some c) (hname : (F.name == "runtime.NumGoroutine") = false)
    {args : List B} {r : A} (hlen : Nat.ble args.length F.ntmps = true) (hr : noOwn r = true)
    (h : ∀ X, X.n0 = 0 → V P X [.c c] ⟨initGo 0 args, [], 0, [], [], F.ntmps⟩ (Ends P T 0 F fun r' _ _ => WkA r' r)) : Pure P f args r :=
  ⟨hr, con_intro hT hf hb hname hlen h⟩

theorem ends {n0 : Nat} {F : Func} {R : A → List (Nat × Blk) → Nat → Prop} {s : St} {r : A} (h : resGo s T F.results.toList [] = some r) (hR : R r [] s.nx) : Ends P T n0 F R .ret s :=
  ⟨.inr rfl, s, r, [], Ghost.refl n0 s, h, by simp, hR⟩
theorem endsP {n0 : Nat} {F : Func} {s : St} {r r' : A} (h : resGo s T F.results.toList [] = some r') (hw : WkA r' r) : Ends P T n0 F (fun r' _ _ => WkA r' r) .ret s := ends h hw
theorem ends_ghost {n0 : Nat} {F : Func} {R : A → List (Nat × Blk) → Nat → Prop} {s s' : St} {e : Exit} (hg : Ghost P n0 s s') (h : Ends P T n0 F R e s') : Ends P T n0 F R e s := by
  obtain ⟨h1, s2, r, o', h2, h3⟩ := h
  exact ⟨h1, s2, r, o', hg.trans h2, h3⟩

end Go.Cel

set_option linter.unusedVariables false
set_option linter.unusedSimpArgs false
namespace Go.Cel
variable {P : Program} {T : Nat → Ty} {X : CtxD} {ρ : Rho} {M : Imm} {s s' : St} {a : Act} {W : World} {p : Path} {o : Oper} {v : A}

def cB : C → B
  | .d x => .l (.d x)
  | .ptr id off => .l (.ptr id off)
abbrev bD (x : D) : B := .l (.d x)

def calleeOf (s : St) : Operand → Option (FuncId × List B × List B)
  | .func f => some (f, [], [])
  | .tmp t => match look t s.regs with
    | some (q, .b (.l (.d (.fn f a b)))) => bif covers s.asm [] q then some (f, a.map bD, b.map bD) else none
    | some (q, .b (.l (.ofn f a b))) => bif covers s.asm [] q then some (f, a.map cB, b.map cB) else none
    | _ => none
  | _ => none

def evArgs (s : St) : List Operand → Option (List B)
  | [] => some []
  | x :: r => match ev s [] x, evArgs s r with
    | some (.b y), some l => some (y :: l)
    | _, _ => none

/-- The function that an operation calls, and its arguments. -/
def callOf (s : St) (o : Oper) : Option (FuncId × List B) :=
  match o.op with
  | .call { callee := .value cal, args := args, .. } => match calleeOf s cal, evArgs s args.toList with
    | some (f, a, b), some l => some (f, a ++ (l ++ b))
    | _, _ => none
  | _ => none

/-- Is an operation surely carried out? -/
def ready (all : List Oper) (s : St) (o : Oper) : Bool :=
  match o.guard with
  | none => true
  | some (j, b) => match all[j]? with
    | some oj => match oj.dst with
      | some t => match look t s.gv with
        | some (q, _) => covers s.asm [] ((t, b) :: q)
        | none => false
      | none => false
    | none => false

theorem ready_wanted {all : List Oper} (g : Gam P X ρ M s a W) (h : ready all s o = true) : Region.wanted o (yielded all.toArray a.tmps) = true := by
  unfold ready at h
  split at h
  · rename_i hg; simp [Region.wanted, hg]
  · rename_i j b hg
    split at h
    · rename_i oj hj
      split at h
      · rename_i t ht
        split at h
        · rename_i q x hl
          exact (wanted_guard g hg hj ht hl).2 (holds_covers h g.asm (holds_nil _))
        · cases h
      · cases h
    · cases h

theorem evArgs_den (g : Gam P X ρ M s a W) : ∀ {l : List Operand} {bs : List B}, evArgs s l = some bs → All2 (DenB P ρ M) bs (l.map a.eval)
  | [], bs, h => by simp [evArgs] at h; subst h; trivial
  | x :: r, bs, h => by
    simp only [evArgs] at h
    split at h
    · rename_i y l hx hl
      simp at h; subst h
      exact ⟨ev_den hx g (holds_nil _), evArgs_den g hl⟩
    · simp at h

theorem All2_cB : ∀ {cs : List C} {vs : List Value}, All2 (DenC P ρ M) cs vs → All2 (DenB P ρ M) (cs.map cB) vs
  | [], [], _ => trivial
  | .d x :: r, _ :: _, h => ⟨h.1, All2_cB h.2⟩
  | .ptr id off :: r, _ :: _, h => ⟨h.1, All2_cB h.2⟩
  | [], _ :: _, h => h.elim
  | .d _ :: _, [], h => h.elim
  | .ptr _ _ :: _, [], h => h.elim

theorem All2_get_d {l : List D} {ws : List Value} {g : Nat → Value} (hl : ws.length = l.length) (hg : ∀ (i : Nat) (x : D), l[i]? = some x → ws[i]? = some (g i)) (hd : ∀ (i : Nat) (x : D), l[i]? = some x → DenD P M x (g i)) : All2 (DenB P ρ M) (l.map bD) ws := by
  refine All2.map (All2.of_get hl.symm fun i x w hx hw => ?_)
  have := hg i x hx
  rw [this] at hw; simp at hw; subst hw
  exact hd i x hx

theorem callOf_run {f : FuncId} {args : List B} (g : Gam P X ρ M s a W) (h : callOf s o = some (f, args)) (hE : ∀ (xs : Array Value) (W : World), (callFunc f xs).run P W = .ok (.enter f xs) W) :
    ∃ vs : List Value, (execOp a.eval o).run P W = .ok (.enter f vs.toArray) W ∧ All2 (DenB P ρ M) args vs := by
  unfold callOf at h
  split at h
  · rename_i cal xs ts ho
    split at h
    · rename_i f' fa fb l hcal hargs
      simp at h
      obtain ⟨rfl, rfl⟩ := h
      have ha := evArgs_den g hargs
      have key : ∀ (first caps : List Value), a.eval cal = .func (.func f') first.toArray caps.toArray → (execOp a.eval o).run P W = .ok (.enter f' (first ++ (xs.toList.map a.eval ++ caps)).toArray) W := by
        intro first caps he
        simp [execOp, ho, resolve, he, Deferred.ofValue, invoke, hE]
      have fin : ∃ first caps : List Value, a.eval cal = .func (.func f') first.toArray caps.toArray ∧ All2 (DenB P ρ M) fa first ∧ All2 (DenB P ρ M) fb caps := by
        unfold calleeOf at hcal
        split at hcal
        · rename_i f2; simp at hcal; obtain ⟨rfl, rfl, rfl⟩ := hcal; exact ⟨[], [], rfl, trivial, trivial⟩
        · rename_i t
          split at hcal
          · rename_i q f2 x y hl
            cases hc : covers s.asm [] q with
            | false => simp [hc] at hcal
            | true =>
              simp [hc] at hcal; obtain ⟨rfl, rfl, rfl⟩ := hcal
              obtain ⟨z, h1, h2, _⟩ := g.regs _ _ _ hl
              have h3 : DenD P M (.fn f2 x y) z := h2 (holds_covers hc g.asm (holds_nil _))
              rw [reg_eval h1]
              cases h3 with
              | fn _ _ _ ws us hx hy g1 g2 hg1 hg2 d1 d2 => exact ⟨ws, us, rfl, All2_get_d hx hg1 d1, All2_get_d hy hg2 d2⟩
          · rename_i q f2 x y hl
            cases hc : covers s.asm [] q with
            | false => simp [hc] at hcal
            | true =>
              simp [hc] at hcal; obtain ⟨rfl, rfl, rfl⟩ := hcal
              obtain ⟨z, h1, h2, _⟩ := g.regs _ _ _ hl
              obtain ⟨ws, us, h3, h4, h5⟩ := h2 (holds_covers hc g.asm (holds_nil _))
              rw [reg_eval h1]
              exact ⟨ws, us, h3, All2_cB h4, All2_cB h5⟩
          · simp at hcal
        · simp at hcal
      obtain ⟨first, caps, h1, h2, h3⟩ := fin
      exact ⟨_, key first caps h1, All2.append h2 (All2.append ha h3)⟩
    · simp at h
  · simp at h

/-- What a call leaves, to the caller. -/
theorem Gam.back (g : Gam P X ρ M s a W) {ρc ρ' : Rho} {M' : Imm} {n nx' : Nat} {o' : List (Nat × Blk)} {W' : World} {Kc : Nat → Prop} (hK : ∀ b, ¬ Kc b) (hm : Mem P ⟨W, Kc, M, ρc, n⟩ ρ' M' o' nx' W') : Gam P X ρ M' s a W' := by
  have hold : ∀ b, b < W.heap.size → W'.heap[b]? = W.heap[b]? := fun b hb => hm.old b hb (hK b)
  have hsize : W.heap.size ≤ W'.heap.size := hm.size
  refine ⟨⟨hm.os.trans g.os, hm.tape.trans g.tape, hm.output.trans g.output, Nat.le_trans g.size hsize, ?_, hm.imm, g.mono.trans hm.mono, ?_, g.rle, g.nle, g.rfr, g.fresh, ?_, ?_, g.dist⟩, ?_, g.wfr, g.gv, g.wfg, g.asm, g.defers, g.sz⟩
  · intro b hb hk
    rw [hold b (Nat.lt_of_lt_of_le hb g.size)]
    exact g.old b hb hk
  · intro b ob hb
    rcases hm.newM b ob hb with h | h | h
    · exact g.newM b ob h
    · exact absurd h (hK b)
    · exact .inr (.inr (Nat.le_trans g.size h))
  · intro id b hb
    exact (g.own id b hb).keep (Rho.le.refl _) hm.mono fun v k hv hk => hold k ((g.own id b hb).lt hv hk)
  · intro id b v k hb hv hk
    have := g.mine id b v k hb hv hk
    refine ⟨?_, this.2⟩
    cases h : M' k with
    | none => rfl
    | some ob =>
      rcases hm.newM k ob h with h' | h' | h'
      · exact absurd (this.1.symm.trans h') (by simp)
      · exact absurd h' (hK k)
      · exact absurd ((g.own id b hb).lt hv hk) (Nat.not_lt.2 h')
  · intro k q u hk
    obtain ⟨x, h1, h2, h3⟩ := g.regs k q u hk
    exact ⟨x, h1, fun hh => DenA.mono (Rho.le.refl _) hm.mono (h2 hh), h3⟩

theorem Mem.start (hi : ∀ b ob, M b = some ob → W.heap[b]? = some ob) : Mem P ⟨W, handed (fun _ => none) [], M, fun _ => none, 0⟩ (fun _ => none) M [] 0 W :=
  ⟨rfl, rfl, rfl, Nat.le_refl _, fun _ _ _ => rfl, hi, Imm.le.refl _, fun _ _ h => .inl h, Rho.le.refl _, Nat.le_refl _, fun _ _ => rfl, fun _ _ => rfl, fun _ _ h => by simp at h, fun _ _ _ _ h => by simp at h, fun _ _ _ _ _ _ _ h => by simp at h⟩

/-- A CALL BY CONTRACT. -/
theorem VL_pure (hT : TabOK P T) {n : Nat} {all rest : List Oper} {k : List It} {Q : Post} {f : FuncId} {args : List B} {r : A} {t : Nat} {all' ops' : List Oper} {k' : List It} {s'' : St}
    (con : Pure P f args r) (hc : callOf s o = some (f, args)) (hg : ready all s o = true) (ha : noOwnBs args = true) (hp : put s o.dst [] r = some s')
    (h : resume T n all rest k s' = ⟨t, all', ops', k', s''⟩) (hv : VO P X ⟨t, all', ops', k', s''⟩ Q) : VL P X all (o :: rest) k s Q := by
  intro ρ M a W g
  refine wpList_do (ready_wanted g hg) ?_
  obtain ⟨vs, h1, h2⟩ := callOf_run g hc con.2.1
  unfold Oper.wp
  rw [h1]
  refine (con.2.2 W (fun _ => none) M vs (Mem.start g.imm) (noOwnBs_den ha h2)).mono ?_
  rintro e W' ⟨ρ', M', r', v, o', nx', rfl, hd, hwk, hm⟩
  have hd := hwk.den hd
  have g1 := g.back (fun b hb => by obtain ⟨_, _, _, h, _⟩ := hb; simp at h) hm
  exact VL_go hT h hv ρ M' _ W' (g1.putS hp ⟨fun _ => noOwn_den con.1 hd, fun hh => absurd (holds_nil _) hh⟩ (by simp))

/-- One block for each name, another name. -/
def renL (m : Nat → Nat) : L → L
  | .d x => .d x
  | .ptr id off => .ptr (m id) off
  | .orow id => .orow (m id)
  | .optr id i off sz => .optr (m id) i off sz
  | .osl id lo hi sz => .osl (m id) lo hi sz
  | .omap id => .omap (m id)
  | .ofn f a b => .ofn f (a.map fun c => match c with | .d x => .d x | .ptr id off => .ptr (m id) off) (b.map fun c => match c with | .d x => .d x | .ptr id off => .ptr (m id) off)
def renB (m : Nat → Nat) : B → B
  | .l x => .l (renL m x)
  | .agg cs => .agg (cs.map (renL m))
def renA (m : Nat → Nat) : A → A
  | .b x => .b (renB m x)
  | .tup vs => .tup (vs.map (renB m))
  | .undef => .undef
def renBlk (m : Nat → Nat) : Blk → Blk
  | .cells cs t => .cells (cs.map (renL m)) t
  | .row t es => .row t es
  | .spread t es => .spread t es
  | .rowp t es i cs => .rowp t es i (cs.map (renL m))
  | .map t x => .map t x

end Go.Cel
