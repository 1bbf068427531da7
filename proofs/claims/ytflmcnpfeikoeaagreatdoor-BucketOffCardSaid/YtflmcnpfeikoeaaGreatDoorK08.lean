/- CelZ: parts of rows of one's own: slices of them, copy, clear, append. -/
import Derived.Test.YtflmcnpfeikoeaaGreatDoorK07
import Derived.Lib.AppendZerosOnto
set_option linter.unusedVariables false
set_option linter.unusedSimpArgs false
namespace Go.Cel
variable {P : Program} {T : Nat → Ty} {X : CtxD} {ρ : Rho} {M : Imm} {r s s' : St} {a : Act} {W : World} {p : Path} {o : Oper} {v : A}

/-- Another reading of a block. -/
theorem Gam.reblk (g : Gam P X ρ M s a W) {id : Nat} {b b' : Blk} (hm : (id, b) ∈ s.own) (hb : BlkOK P ρ M W id b') {O : List (Nat × Blk)} (hO : ∀ i c, (i, c) ∈ O → (i = id ∧ c = b') ∨ (i ≠ id ∧ (i, c) ∈ s.own)) : Gam P X ρ M { s with own := O } a W := by
  refine ⟨⟨g.os, g.tape, g.output, g.size, g.old, g.imm, g.mono, g.newM, g.rle, g.nle, g.rfr, g.fresh, fun i c h => ?_, fun i c v k h hv hk => ?_, fun i c i' c' v v' k h h' hv hv' hk hk' => ?_⟩, g.regs, g.wfr, g.gv, g.wfg, g.asm, g.defers, g.sz⟩
  · rcases hO i c h with ⟨rfl, rfl⟩ | ⟨_, h⟩
    · exact hb
    · exact g.own i c h
  · rcases hO i c h with ⟨rfl, rfl⟩ | ⟨_, h⟩
    · exact g.mine i b v k hm hv hk
    · exact g.mine i c v k h hv hk
  · rcases hO i c h with ⟨rfl, rfl⟩ | ⟨hn, h⟩ <;> rcases hO i' c' h' with ⟨rfl, rfl⟩ | ⟨hn', h'⟩
    · exact ⟨rfl, rfl⟩
    · exact absurd (g.dist _ b i' c' v v' k hm h' hv hv' hk hk').1 (Ne.symm hn')
    · exact absurd (g.dist i c _ b v v' k h hm hv hv' hk hk').1 hn
    · exact g.dist i c i' c' v v' k h h' hv hv' hk hk'

theorem remP_one {id i : Nat} {b c : Blk} {O : List (Nat × Blk)} (h : (i, c) ∈ (id, b) :: remP [id] O) : (i = id ∧ c = b) ∨ (i ≠ id ∧ (i, c) ∈ O) := by
  rcases List.mem_cons.1 h with e | h
  · cases e; exact .inl ⟨rfl, rfl⟩
  · have := remP_mem.1 h
    exact .inr ⟨by simpa using this.2, this.1⟩

/-- Slicing a slice. -/
theorem run_slice_any (hT : TabOK P T) {t e : Nat} {x : Operand} {lo hi : Option Operand} {l h : Option Int} {k1 k2 : IntKind} {A : Option Addr} {n c : Nat} (i j : Nat) (ho : o.op = .slice t x lo hi none) (hk : (T t).kd = .slice e) (he : (T e).kd.known = true)
    (hxe : a.eval x = .slice A n c) (e1 : lo.map a.eval = l.map (Value.int k1)) (e2 : hi.map a.eval = h.map (Value.int k2)) (hl : l.getD 0 = (i : Int)) (hh : h.getD (n : Int) = (j : Int)) (hij : i ≤ j) (hj : j ≤ c) :
    (execOp a.eval o).run P W = .ok (.value (sliced A i j c (T e).size)) W := by
  have hu := kd_slice hT hk
  have hel : P.elem t = e := by simp [Program.elem, hu]
  have hu' : P.underlying t = some (.slice (P.elem t)) := by rw [hel]; exact hu
  have hsz := (hT e he).run_size W
  cases l <;> cases h <;> simp at hl hh
  · have h1 : i = 0 := by omega
    have h2 : j = n := by omega
    subst h1 h2
    simp [execOp, ho, hxe, e1, e2, run_sliceAt_slice (h := hu'), run_slice_all W t A j c hu', hel, hsz]
  · rename_i z
    subst hh
    have h1 : i = 0 := by omega
    subst h1
    simp [execOp, ho, hxe, e1, e2, run_sliceAt_slice (h := hu'), run_slice_h W t A n c hu' k2 (j : Int) (by omega) (by omega), hel, hsz]
  · subst hl
    have h2 : j = n := by omega
    subst h2
    simp [execOp, ho, hxe, e1, e2, run_sliceAt_slice (h := hu'), run_slice_l W t A j c hu' k1 (i : Int) (by omega) (by omega), hel, hsz]
  · subst hl hh
    simp [execOp, ho, hxe, e1, e2, run_sliceAt_slice (h := hu'), run_slice_lh W t A n c hu' k1 k2 (i : Int) (j : Int) (by omega) (by omega) (by omega), hel, hsz]

theorem osl_sliced {id lo hi sz i j A n c} {ad : Option Addr} (h1 : ρ id = some (.slice A n c)) (hlo : lo ≤ hi) (hc : hi ≤ c) (had : (0 < lo ∧ c = lo) ∨ ad = A.map fun b => b.add (lo * sz)) (hij : i ≤ j) (hj : j ≤ c - lo) : DenL P ρ M (.osl id (lo + i) (lo + j) sz) (sliced ad i j (c - lo) sz) := by
  refine ⟨A, n, c, if c - lo = i then ad else ad.map fun b => b.add (i * sz), h1, by omega, by omega, ?_, ?_⟩
  · by_cases e : c - lo = i
    · rw [if_pos e]
      by_cases h0 : lo + i = 0
      · right
        have : lo = 0 := by omega
        have : i = 0 := by omega
        subst lo i
        rcases had with had | had
        · omega
        · simpa using had
      · left; omega
    · rw [if_neg e]
      right
      rcases had with had | had
      · omega
      · subst had
        cases A with
        | none => rfl
        | some b => simp [Addr.add_add, Nat.add_mul]
  · simp only [sliced]
    congr 1 <;> omega

/-- what a value says of a spread of one's own: where in it. -/
def oslOf (r : St) (p : Path) (x : Operand) : Option (Nat × Nat × Nat × Nat) :=
  match ev r p x with
  | some (.b (.l (.osl id lo hi sz))) => some (id, lo, hi, sz)
  | _ => none
theorem oslOf_some {x : Operand} {id lo hi sz : Nat} (h : oslOf r p x = some (id, lo, hi, sz)) : ev r p x = some (.b (.l (.osl id lo hi sz))) := by
  unfold oslOf at h
  split at h
  · rename_i heq; cases h; exact heq
  · cases h

theorem spread_at (g : Gam P X ρ M r a W) {id lo hi sz : Nat} {t : TypeId} {es : List (Option (List D))} (hl : look id r.own = some (.spread t es)) {x : Value} (hx : DenL P ρ M (.osl id lo hi sz) x) :
    (∃ ad, es = [] ∧ lo = 0 ∧ hi = 0 ∧ ρ id = some (.slice none 0 0) ∧ ad = none ∧ x = .slice ad 0 0) ∨
    ∃ gb n cur ad, ρ id = some (.slice (some ⟨gb, 0, none⟩) n es.length) ∧ W.heap[gb]? = some (.cells cur t (0, 0)) ∧ es.length ≤ maxLen ∧ cur.size = es.length * P.cellsOf t ∧ SpreadRep P M (P.cellsOf t) es cur.toList ∧
      lo ≤ hi ∧ hi ≤ es.length ∧ ((0 < lo ∧ es.length = lo) ∨ ad = some ⟨gb, lo * sz, none⟩) ∧ x = .slice ad (hi - lo) (es.length - lo) := by
  have hb := g.own _ _ (look_mem hl)
  obtain ⟨A, n, c, ad, h1, h2, h3, h4, h5⟩ := hx
  rcases hb with ⟨h6, h7⟩ | ⟨gb, n', cur, h6, h7, h8, h9, h10⟩
  · rw [h1] at h6; simp at h6
    obtain ⟨rfl, rfl, rfl⟩ := h6
    have : hi = 0 := by omega
    have : lo = 0 := by omega
    subst lo hi
    left
    refine ⟨ad, h7, rfl, rfl, h1, ?_, by simpa using h5⟩
    rcases h4 with h4 | h4
    · omega
    · simpa using h4
  · rw [h1] at h6; simp at h6
    obtain ⟨rfl, rfl, rfl⟩ := h6
    right
    refine ⟨gb, _, cur, ad, h1, h7, h8, h9, h10, h2, h3, ?_, h5⟩
    rcases h4 with h4 | h4
    · exact .inl h4
    · right; rw [h4]; simp [Addr.add_lit]

/-- A slice of a part of a row of one's own. -/
theorem yl_sliceOsl (hT : TabOK P T) {t e id lo hi sz : Nat} {x : Operand} {l' h' : Option Operand} {es : List (Option (List D))} {l h : Option Int} (i j lo2 hi2 : Nat) (ho : o.op = .slice t x l' h' none) (hk : (T t).kd = .slice e) (he : (T e).kd.known = true)
    (hx : ev r p x = some (.b (.l (.osl id lo hi sz)))) (hlk : look id r.own = some (.spread e es)) (hsz : Nat.beq sz (T e).size = true) (hlo : optInt r p l' = some l) (hhi : optInt r p h' = some h) (hp : pin r p = true)
    (hl : l.getD 0 = (i : Int)) (hh : h.getD ((hi - lo : Nat) : Int) = (j : Int)) (hij : i ≤ j) (hj : lo + j ≤ es.length) (h2 : lo2 = lo + i) (h3 : hi2 = lo + j) : Yl P o r p (.b (.l (.osl id lo2 hi2 sz))) := by
  refine .of hp fun X ρ M a W g hho => ?_
  subst h2 h3
  have hs := Nat.eq_of_beq_eq_true hsz
  have hd : DenL P ρ M (.osl id lo hi sz) (a.eval x) := ev_den hx g hho
  obtain ⟨k1, e1⟩ := optInt_den hlo g hho
  obtain ⟨k2, e2⟩ := optInt_den hhi g hho
  have hd' := hd
  obtain ⟨A, n, c, ad, h1, h2, h3, h4, h5⟩ := hd
  have hc : c = es.length := by
    rcases spread_at g hlk hd' with ⟨ad', h6, h7, h8, h9, _⟩ | ⟨gb, n', cur, ad', h6, _⟩
    · rw [h1] at h9; simp at h9; simp [h6, h9]
    · rw [h1] at h6; simp at h6; exact h6.2.2
  subst hc
  refine ⟨_, run_slice_any hT i j ho hk he h5 e1 e2 hl hh hij (by omega), ?_⟩
  rw [← hs]
  exact osl_sliced (P := P) (M := M) h1 h2 h3 h4 hij (by omega)

theorem yl_lenOsl (hT : TabOK P T) {t e id lo hi sz : Nat} {x : Operand} {args : Array Operand} {ts : Array TypeId} (ho : o.op = .call { callee := .builtin .len, args := args, argTypes := ts }) (hargs : args = #[x]) (hts : ts = #[t]) (hk : (T t).kd = .slice e) (hx : ev r p x = some (.b (.l (.osl id lo hi sz)))) (hp : pin r p = true) :
    Yl P o r p (dl (.int .i64 ((hi - lo : Nat) : Int))) := by
  refine .of hp fun X ρ M a W g hho => ?_
  subst hargs hts
  obtain ⟨A, n, c, ad, h1, h2, h3, h4, h5⟩ := ev_den hx g hho
  have hu := kd_slice hT hk
  refine ⟨.int .i64 ((hi - lo : Nat) : Int), ?_, .int _ _⟩
  simp [execOp, ho, resolve, invoke, h5, builtin, Builtin.len_, run_underlying hu, goInt]

theorem yl_capOsl (hT : TabOK P T) {t e id lo hi sz : Nat} {x : Operand} {es : List (Option (List D))} {args : Array Operand} {ts : Array TypeId} (ho : o.op = .call { callee := .builtin .cap, args := args, argTypes := ts }) (hargs : args = #[x]) (hts : ts = #[t]) (hk : (T t).kd = .slice e) (hx : ev r p x = some (.b (.l (.osl id lo hi sz)))) (hlk : look id r.own = some (.spread e es)) (hp : pin r p = true) :
    Yl P o r p (dl (.int .i64 ((es.length - lo : Nat) : Int))) := by
  refine .of hp fun X ρ M a W g hho => ?_
  subst hargs hts
  have hd : DenL P ρ M (.osl id lo hi sz) (a.eval x) := ev_den hx g hho
  have hu := kd_slice hT hk
  refine ⟨.int .i64 ((es.length - lo : Nat) : Int), ?_, .int _ _⟩
  rcases spread_at g hlk hd with ⟨ad', h6, h7, h8, h9, h10, h11⟩ | ⟨gb, n', cur, ad', h6, _, _, _, _, _, _, _, h11⟩
  · simp [execOp, ho, resolve, invoke, h11, builtin, Builtin.cap_, run_underlying hu, goInt, h6]
  · simp [execOp, ho, resolve, invoke, h11, builtin, Builtin.cap_, run_underlying hu, goInt]

/-! From a row to its parts, and back. -/
def spL (id n sz : Nat) (l : L) : L :=
  match l with
  | .orow j => bif Nat.beq j id then .osl j 0 n sz else .orow j
  | .d y => .d y
  | .ptr j off => .ptr j off
  | .optr j i off sz => .optr j i off sz
  | .osl j lo hi sz => .osl j lo hi sz
  | .omap j => .omap j
  | .ofn f a b => .ofn f a b
def spRegs {β : Type} (id n sz : Nat) (k : List (Nat × Path × A) → Option β) : List (Nat × Path × A) → List (Nat × Path × A) → Option β
  | [], acc => revGo acc [] k
  | (d, p, .b (.l l)) :: r, acc => forceL (spL id n sz l) fun l' => spRegs id n sz k r ((d, p, .b (.l l')) :: acc)
  | (d, p, v) :: r, acc => spRegs id n sz k r ((d, p, v) :: acc)
def rmGo {β : Type} (id : Nat) (k : List (Nat × Blk) → Option β) : List (Nat × Blk) → List (Nat × Blk) → Option β
  | [], acc => revGo acc [] k
  | (j, b) :: r, acc => bif Nat.beq j id then rmGo id k r acc else rmGo id k r ((j, b) :: acc)
def rmOne (id : Nat) (O : List (Nat × Blk)) : Option (List (Nat × Blk)) := rmGo id some O []
/-- a row with its capacity told. -/
def spreadSt (id sz c : Nat) (s : St) : Option St :=
  match s with
  | ⟨R, O, n, g, m, z⟩ => match look id O with
    | some (.row t es) => rmGo id (fun O' => spRegs id es.length sz (fun R' => some ⟨R', (id, .spread t (es.map some ++ List.replicate (c - es.length) none)) :: O', n, g, m, z⟩) R []) O []
    | _ => none

theorem rmGo_eq {β : Type} {id : Nat} {k : List (Nat × Blk) → Option β} : ∀ (l acc : List (Nat × Blk)), rmGo id k l acc = k (acc.reverse ++ remP [id] l)
  | [], acc => by simp [rmGo, revGo_eq, remP]
  | (j, b) :: r, acc => by
    simp only [rmGo]
    by_cases e : j = id
    · subst e
      rw [Nat.beq_refl]
      simp [rmGo_eq r, remP, memN, Nat.beq_refl]
    · have : Nat.beq j id = false := by cases h : Nat.beq j id with | false => rfl | true => exact absurd (Nat.eq_of_beq_eq_true h) e
      have h2 : Nat.beq id j = false := by cases h : Nat.beq id j with | false => rfl | true => exact absurd (Nat.eq_of_beq_eq_true h).symm e
      rw [this]
      simp [rmGo_eq r, remP, memN, h2]
def spV (id n sz : Nat) : A → A
  | .b (.l l) => .b (.l (spL id n sz l))
  | v => v
theorem spRegs_eq {β : Type} {id n sz : Nat} {k : List (Nat × Path × A) → Option β} : ∀ (l acc : List (Nat × Path × A)), spRegs id n sz k l acc = k (acc.reverse ++ l.map fun q => (q.1, q.2.1, spV id n sz q.2.2))
  | [], acc => by simp [spRegs, revGo_eq]
  | (d, p, .b (.l l)) :: r, acc => by simp [spRegs, forceL_eq, spRegs_eq r, spV]
  | (d, p, .b (.agg cs)) :: r, acc => by simp [spRegs, spRegs_eq r, spV]
  | (d, p, .tup vs) :: r, acc => by simp [spRegs, spRegs_eq r, spV]
  | (d, p, .undef) :: r, acc => by simp [spRegs, spRegs_eq r, spV]

theorem spread_gam {id sz : Nat} {f : Nat → St} (hT : TabOK P T) {t : TypeId} {es : List (List D)} (hkn : (T t).kd.known = true) (hsz : Nat.beq sz (T t).size = true) (hl : look id s.own = some (.row t es)) (h : ∀ c, spreadSt id sz c s = some (f c)) (g : Gam P X ρ M s a W) : ∃ c, es.length ≤ c ∧ c ≤ maxLen ∧ Gam P X ρ M (f c) a W := by
  obtain ⟨R, O, n, gv, as, z⟩ := s
  have hs := Nat.eq_of_beq_eq_true hsz
  have hcells := (hT t hkn).size
  have hb := g.own _ _ (look_mem hl)
  obtain ⟨u, xs, h1, h2, h3, h4⟩ := hb
  have hf : ∀ c, f c = ⟨R.map fun q => (q.1, q.2.1, spV id es.length sz q.2.2), (id, .spread t (es.map some ++ List.replicate (c - es.length) none)) :: remP [id] O, n, gv, as, z⟩ := fun c => by
    have := h c
    have hl' : look id O = some (.row t es) := hl
    simp only [spreadSt, hl', rmGo_eq, spRegs_eq] at this
    simpa using this.symm
  have fin : ∀ c, BlkOK P ρ M W id (.spread t (es.map some ++ List.replicate (c - es.length) none)) → (∃ A, u = .slice A es.length c) → es.length ≤ c → Gam P X ρ M (f c) a W := fun c hb ⟨A, hu⟩ hc => by
    have g1 := g.reblk (look_mem hl) hb (O := (id, .spread t (es.map some ++ List.replicate (c - es.length) none)) :: remP [id] O) fun i c h => remP_one h
    rw [hf]
    refine ⟨g1.toMem, fun k p v hk => ?_, fun k p v hm => ?_, g1.gv, g1.wfg, g1.asm, g1.defers, g1.sz⟩
    · simp only at hk
      rw [look_map] at hk
      cases hl' : look k R with
      | none => simp [hl'] at hk
      | some e =>
        obtain ⟨q', u'⟩ := e
        simp [hl'] at hk
        obtain ⟨rfl, rfl⟩ := hk
        obtain ⟨y, q1, q2, q3⟩ := g1.regs k q' u' hl'
        refine ⟨y, q1, fun hh => ?_, q3⟩
        have hd := q2 hh
        cases u' with
        | b b => cases b with
          | l l => cases l with
            | orow j =>
              simp only [spV, spL]
              by_cases e : j = id
              · subst e
                rw [Nat.beq_refl]
                obtain ⟨d1, d2⟩ := hd
                rw [h1] at d1; cases d1
                exact ⟨A, _, c, A, by rw [h1, hu], Nat.zero_le _, hc, .inr (by cases A <;> simp [Addr.add]), by simp [hu]⟩
              · have : Nat.beq j id = false := by cases h : Nat.beq j id with | false => rfl | true => exact absurd (Nat.eq_of_beq_eq_true h) e
                rw [this]; exact hd
            | _ => exact hd
          | agg cs => exact hd
        | tup vs => exact hd
        | undef => exact hd
    · simp only at hm
      obtain ⟨⟨k', q', u'⟩, q1, q2⟩ := List.mem_map.1 hm
      simp at q2
      obtain ⟨rfl, rfl, rfl⟩ := q2
      exact g1.wfr k' q' u' q1
  rcases h2.2 with ⟨rfl, h0⟩ | ⟨gb, cap, cur, rfl, _, hg, hnc, hcm, hcs, htake⟩
  · obtain rfl : es = [] := List.eq_nil_of_length_eq_zero h0
    exact ⟨0, Nat.le_refl _, Nat.zero_le _, fin 0 (.inl ⟨h1, rfl⟩) ⟨_, rfl⟩ (Nat.le_refl _)⟩
  · refine ⟨cap, hnc, hcm, fin cap (.inr ⟨gb, es.length, cur, ?_, hg, ?_, ?_, fun i cs hi => ?_⟩) ⟨_, rfl⟩ hnc⟩
    · rw [h1]; simp; omega
    · simp; omega
    · rw [hcs]; congr 1; simp; omega
    · have hi' : es[i]? = some cs := by
        rw [List.getElem?_append] at hi
        split at hi
        · rw [List.getElem?_map] at hi
          cases he : es[i]? with
          | none => simp [he] at hi
          | some y => simp [he] at hi; rw [hi]
        · rw [List.getElem?_replicate] at hi
          split at hi <;> simp at hi
      refine ⟨(h3.2 i cs hi').1, fun j x hj => ?_⟩
      obtain ⟨w, q1, q2⟩ := (h3.2 i cs hi').2 j x hj
      refine ⟨w, ?_, q2⟩
      rw [← htake, List.getElem?_take] at q1
      split at q1
      · exact q1
      · cases q1

theorem V_spread (hT : TabOK P T) (id sz : Nat) {k : List It} {Q : Post} {f : Nat → St} {t : TypeId} {es : List (List D)} (hl : look id s.own = some (.row t es)) (hkn : (T t).kd.known = true) (hsz : Nat.beq sz (T t).size = true) (h : ∀ c, spreadSt id sz c s = some (f c))
    (hv : ∀ c, es.length ≤ c → c ≤ maxLen → V P X k (f c) Q) : V P X k s Q := fun ρ M a W g => by
  obtain ⟨c, h1, h2, g1⟩ := spread_gam hT hkn hsz hl h g
  exact hv c h1 h2 ρ M a W g1
theorem VL_spread (hT : TabOK P T) (id sz : Nat) {all ops : List Oper} {k : List It} {Q : Post} {f : Nat → St} {t : TypeId} {es : List (List D)} (hl : look id s.own = some (.row t es)) (hkn : (T t).kd.known = true) (hsz : Nat.beq sz (T t).size = true) (h : ∀ c, spreadSt id sz c s = some (f c))
    (hv : ∀ c, es.length ≤ c → c ≤ maxLen → VL P X all ops k (f c) Q) : VL P X all ops k s Q := fun ρ M a W g => by
  obtain ⟨c, h1, h2, g1⟩ := spread_gam hT hkn hsz hl h g
  exact hv c h1 h2 ρ M a W g1

theorem SpreadRep.row {sz k : Nat} {es : List (Option (List D))} {fs : List (List D)} {cur : List Value} (h : SpreadRep P M sz es cur) (hf : es.take k = fs.map some) (hk : k ≤ es.length) (hc : cur.length = es.length * sz) : RowRep P M sz fs (cur.take (k * sz)) := by
  have hl : fs.length = k := by have := congrArg List.length hf; simp at this; omega
  have hle : k * sz ≤ es.length * sz := Nat.mul_le_mul_right _ hk
  refine ⟨by simp; rw [hl]; omega, fun i cs hi => ?_⟩
  have hik : i < k := by have := (List.getElem?_eq_some_iff.1 hi).1; omega
  have hi' : es[i]? = some (some cs) := by
    have : (es.take k)[i]? = some (some cs) := by rw [hf]; simp [hi]
    rw [List.getElem?_take] at this
    rwa [if_pos hik] at this
  obtain ⟨h1, h2⟩ := h i cs hi'
  refine ⟨h1, fun j x hj => ?_⟩
  obtain ⟨u, h3, h4⟩ := h2 j x hj
  refine ⟨u, ?_, h4⟩
  rw [List.getElem?_take, if_pos, h3]
  have hj' : j < sz := by have := (List.getElem?_eq_some_iff.1 hj).1; omega
  calc i * sz + j < i * sz + sz := by omega
    _ = (i + 1) * sz := by rw [Nat.succ_mul]
    _ ≤ k * sz := Nat.mul_le_mul_right _ hik

/-- The front of a spread is a row of one's own. -/
theorem ghost_close {n0 : Nat} (hT : TabOK P T) (d id : Nat) {R : List (Nat × Path × A)} {O O' : List (Nat × Blk)} {n z k sz t : Nat} {gv : List (Nat × Path × Bool)} {as : Path} {es : List (Option (List D))} {fs : List (List D)} (h : look d R = some ([], .b (.l (.osl id 0 k sz)))) (hl : look id O = some (.spread t es)) (hkn : (T t).kd.known = true)
    (hf : es.take k = fs.map some) (hk : k ≤ es.length) (hby : fs.length * (T t).bytes ≤ room) (hO : rmOne id O = some O') :
    Ghost P n0 ⟨R, O, n, gv, as, z⟩ ⟨(d, [], .b (.l (.orow n))) :: R, (n, .row t fs) :: O', n + 1, gv, as, z⟩ := by
  intro X ρ M a W hX g
  have hfr := g.fresh n (Nat.le_refl _)
  have hcells := (hT t hkn).size
  have hbytes := (hT t hkn).bytes
  have hO' : O' = remP [id] O := by have := hO; simp only [rmOne, rmGo_eq] at this; simpa using this.symm
  obtain ⟨x, h1, h2⟩ := look_reg g h
  have hlen : fs.length = k := by have := congrArg List.length hf; simp at this; omega
  have key : ∃ hv, x = hv ∧ (∃ A c, hv = .slice A k c) ∧ (∀ j, gOf hv = some j → ∃ id' b v, (id', b) ∈ O ∧ id' ∈ [id] ∧ ρ id' = some v ∧ gOf v = some j) ∧ BlkOK P (ρ.add n hv) M W n (.row t fs) := by
    refine ⟨x, rfl, ?_⟩
    have hnew : (ρ.add n x) n = some x := by simp [Rho.add]
    rcases spread_at g hl h2 with ⟨ad, h6, h7, h8, h9, rfl, rfl⟩ | ⟨gb, n', cur, ad, h6, h7, h8, h9, h10, h11, h12, h13, rfl⟩
    · have : k = 0 := h8
      subst this
      obtain rfl : fs = [] := List.eq_nil_of_length_eq_zero hlen
      exact ⟨⟨_, _, rfl⟩, fun j hj => by simp [gOf] at hj, _, [], hnew, by simpa using World.ownsRow_nil W 0 t _, ⟨by simp, by simp⟩, by simp⟩
    · have had : ad = some ⟨gb, 0, none⟩ := by
        rcases h13 with h13 | h13
        · omega
        · simpa using h13
      subst had
      refine ⟨⟨some ⟨gb, 0, none⟩, es.length, by simp⟩, fun j hj => ⟨id, .spread t es, _, look_mem hl, by simp, h6, by simpa [gOf] using hj⟩, _, cur.toList.take (k * P.cellsOf t), hnew, ⟨?_, .inr ⟨gb, es.length, cur, ?_, Nat.zero_le _, h7, ?_, h8, h9, by rw [hlen]⟩⟩, h10.row hf hk (by simpa using h9), by rw [hbytes]; exact hby⟩
      · have : k * P.cellsOf t ≤ es.length * P.cellsOf t := Nat.mul_le_mul_right _ hk
        simp; rw [hlen]; omega
      · simp; omega
      · omega
  obtain ⟨hv, rfl, hsl, hk', hb⟩ := key
  have g1 := (g.raise (m := n + 1) (Nat.le_succ n)).swap (del := [id]) (n := n) (b := .row t fs) (hv := x) hfr (Nat.lt_succ_self n) (W' := W) rfl rfl rfl (Nat.le_refl _) (fun _ _ _ => rfl) (fun j hj => .inr (hk' j hj)) hb
  rw [← hO'] at g1
  refine ⟨_, M, ⟨g1.toMem, fun k p v hk => ?_, fun k p v hm => ?_, g1.gv, g1.wfg, g1.asm, g1.defers, g1.sz⟩⟩
  · simp only [look_cons] at hk
    by_cases e' : d = k
    · subst e'
      simp at hk
      obtain ⟨rfl, rfl⟩ := hk
      obtain ⟨A, c, hA⟩ := hsl
      exact ⟨_, h1, fun _ => ⟨by simp [Rho.add], A, _, c, hA⟩, fun hh => absurd (holds_nil _) hh⟩
    · simp [e'] at hk
      exact g1.regs k p v hk
  · rcases List.mem_cons.1 hm with e' | hm
    · cases e'; intro t b hh; simp at hh
    · exact g1.wfr k p v hm

end Go.Cel

set_option linter.unusedVariables false
set_option linter.unusedSimpArgs false
namespace Go.Cel
variable {P : Program} {T : Nat → Ty} {X : CtxD} {ρ : Rho} {M : Imm} {r s s' : St} {a : Act} {W : World} {p : Path} {o : Oper} {v : A}

theorem splice_get {α : Type} {off k : Nat} {new cs : List α} (hoff : off ≤ cs.length) : (splice off new cs)[k]? = if k < off then cs[k]? else if k < off + new.length then new[k - off]? else cs[k]? := by
  unfold splice
  rw [List.getElem?_append, List.getElem?_append, List.length_take, List.getElem?_take, List.getElem?_drop]
  have : min off cs.length = off := by omega
  rw [this]
  by_cases h1 : k < off
  · simp [h1]
  · simp only [h1, if_false]
    by_cases h2 : k < off + new.length
    · rw [if_pos (by omega), if_pos h2]
    · rw [if_neg (by omega), if_neg h2]
      congr 1; omega

theorem SpreadRep.splice {sz lo : Nat} {es : List (Option (List D))} {fs : List (List D)} {cur ys : List Value} (h : SpreadRep P M sz es cur) (hf : RowRep P M sz fs ys) (hfit : lo + fs.length ≤ es.length) (hcur : cur.length = es.length * sz) :
    SpreadRep P M sz (splice lo (fs.map some) es) (Cel.splice (lo * sz) ys cur) := by
  intro i cs hi
  have hm : (lo + fs.length) * sz ≤ es.length * sz := Nat.mul_le_mul_right _ hfit
  rw [Nat.add_mul] at hm
  rw [splice_get (by omega)] at hi
  have get := fun k => splice_get (off := lo * sz) (k := k) (new := ys) (cs := cur) (by omega)
  simp only [List.length_map] at hi
  by_cases h1 : i < lo
  · rw [if_pos h1] at hi
    obtain ⟨h2, h3⟩ := h i cs hi
    refine ⟨h2, fun j x hj => ?_⟩
    obtain ⟨u, h4, h5⟩ := h3 j x hj
    refine ⟨u, ?_, h5⟩
    have hj' : j < sz := by have := (List.getElem?_eq_some_iff.1 hj).1; omega
    have : i * sz + j < lo * sz := by
      calc i * sz + j < i * sz + sz := by omega
        _ = (i + 1) * sz := by rw [Nat.succ_mul]
        _ ≤ lo * sz := Nat.mul_le_mul_right _ h1
    rw [get, if_pos this]; exact h4
  · rw [if_neg h1] at hi
    by_cases h2 : i < lo + fs.length
    · rw [if_pos h2] at hi
      have hi' : fs[i - lo]? = some cs := by
        rw [List.getElem?_map] at hi
        cases he : fs[i - lo]? with
        | none => simp [he] at hi
        | some y => simp [he] at hi; rw [hi]
      obtain ⟨h3, h4⟩ := hf.2 _ cs hi'
      refine ⟨h3, fun j x hj => ?_⟩
      obtain ⟨u, h5, h6⟩ := h4 j x hj
      refine ⟨u, ?_, h6⟩
      have hj' : j < sz := by have := (List.getElem?_eq_some_iff.1 hj).1; omega
      have e : i * sz = lo * sz + (i - lo) * sz := by rw [← Nat.add_mul]; congr 1; omega
      have hlt := (List.getElem?_eq_some_iff.1 h5).1
      rw [get, if_neg (by omega), if_pos (by omega), ← h5]
      congr 1; omega
    · rw [if_neg h2] at hi
      obtain ⟨h3, h4⟩ := h i cs hi
      refine ⟨h3, fun j x hj => ?_⟩
      obtain ⟨u, h5, h6⟩ := h4 j x hj
      refine ⟨u, ?_, h6⟩
      have hle : (lo + fs.length) * sz ≤ i * sz := Nat.mul_le_mul_right _ (by omega)
      rw [Nat.add_mul] at hle
      have hys := hf.1
      rw [get, if_neg (by omega), if_neg (by omega)]; exact h5

/-- a block of one's own, turned, and a value. -/
def recTurnV (r : St) (dst : Option Nat) (v : A) (id : Nat) (b : Blk) : Rec := ⟨r, match dst with | some d => [(d, [], v)] | none => [], [], [id], [(id, b)], []⟩

theorem tl_turnV {id : Nat} {b b' : Blk} (hz : (match o.dst with | some d => Nat.blt d r.sz | none => true) = true) (hl : look id r.own = some b)
    (h : ∀ X ρ M a W, Gam P X ρ M r a W → ∃ x W', (execOp a.eval o).run P W = .ok (.value x) W' ∧ DenA P ρ M v x ∧ ((W' = W ∧ b' = b) ∨ ∃ u k, ρ id = some u ∧ gOf u = some k ∧ W'.os = W.os ∧ W'.tape = W.tape ∧ W'.output = W.output ∧ W'.heap.size = W.heap.size ∧
      (∀ j, j ≠ k → W'.heap[j]? = W.heap[j]?) ∧ BlkOK P ρ M W' id b')) : Tl P o (recTurnV r o.dst v id b') := by
  intro X ρ M s a W K Q g hs hf hps hK
  obtain ⟨x, W', h1, h2, h3⟩ := h X ρ M a W (g.sub hs)
  have hm := hs.own _ _ (look_mem hl)
  have g1 : Gam P X ρ M { s with own := (id, b') :: remP [id] s.own } a W' := by
    rcases h3 with ⟨rfl, rfl⟩ | ⟨u, k, q1, q2, q3, q4, q5, q6, q7, q8⟩
    · exact g.reblk hm (g.own _ _ hm) fun i c h => remP_one h
    · exact g.turn hm q1 q2 q3 q4 q5 q6 q7 q8 fun i c h => remP_one h
  unfold Oper.wp
  rw [h1]
  show K (a.put o.dst x) W'
  cases hdst : o.dst with
  | none =>
    rw [hdst] at hK
    exact hK ρ M a W' (fun n hn _ => hn) (by rw [apply_eq]; simpa [recTurnV] using g1)
  | some d =>
    rw [hdst] at hz hps hK
    have hz' : d < s.sz := by
      have h0 : d < r.sz := blt_lt hz
      have h1 : r.sz = s.sz := hs.sz
      exact Nat.lt_of_lt_of_eq h0 h1
    have g2 := g1.putR (p := []) (v := v) (d := d) (hps (d, [], v) (by simp [recTurnV])) hz' (x := x) ⟨fun _ => h2, fun hh => absurd (holds_nil _) hh⟩ (by simp)
    exact hK ρ M (a.put (some d) x) W' (fun n hn _ => hn) (by rw [apply_eq]; exact g2)

/-- What a slice holds, in front. -/
def Src (P : Program) (T : Nat → Ty) (r : St) (e : Nat) (x : Operand) (len : Nat) (fs : List (List D)) : Prop :=
  ∀ X ρ M a W, Gam P X ρ M r a W → ∃ A c ys, a.eval x = .slice A len c ∧ RowRep P M (T e).size fs ys ∧ (fs ≠ [] → ∃ ad, A = some ad ∧ ∀ j u, ys[j]? = some u → W.cell? (ad.add j) = some u)

theorem src_known (hT : TabOK P T) {e : Nat} (he : (T e).kd.known = true) {x : Operand} {fs : List (List D)} (h : srcOf r e x = some fs) (ht : srcTy r e x = true) : Src P T r e x fs.length fs := fun X ρ M a W g => src_den g hT he h ht

theorem RowRep.take {sz k : Nat} {es : List (List D)} {xs : List Value} (h : RowRep P M sz es xs) (hk : k ≤ es.length) : RowRep P M sz (es.take k) (xs.take (k * sz)) := by
  have hle : k * sz ≤ es.length * sz := Nat.mul_le_mul_right _ hk
  have hl := h.1
  have hkm : min k es.length = k := by omega
  refine ⟨by rw [List.length_take, List.length_take, hkm]; omega, fun i cs hi => ?_⟩
  rw [List.getElem?_take] at hi
  split at hi
  · rename_i hik
    obtain ⟨h1, h2⟩ := h.2 i cs hi
    refine ⟨h1, fun j x hj => ?_⟩
    obtain ⟨u, h3, h4⟩ := h2 j x hj
    refine ⟨u, ?_, h4⟩
    rw [List.getElem?_take, if_pos, h3]
    have hj' : j < sz := by have := (List.getElem?_eq_some_iff.1 hj).1; omega
    calc i * sz + j < i * sz + sz := by omega
      _ = (i + 1) * sz := by rw [Nat.succ_mul]
      _ ≤ k * sz := Nat.mul_le_mul_right _ hik
  · cases hi
theorem Src.take {e : Nat} {x : Operand} {len k : Nat} {fs : List (List D)} (h : Src P T r e x len fs) (hk : k ≤ fs.length) : Src P T r e x len (fs.take k) := fun X ρ M a W g => by
  obtain ⟨A, c, ys, h1, h2, h3⟩ := h X ρ M a W g
  refine ⟨A, c, _, h1, h2.take hk, fun hne => ?_⟩
  obtain ⟨ad, h4, h5⟩ := h3 (by intro e; rw [e] at hne; simp at hne)
  refine ⟨ad, h4, fun j u hj => h5 j u ?_⟩
  rw [List.getElem?_take] at hj
  split at hj
  · exact hj
  · cases hj

theorem src_osl (hT : TabOK P T) {e id lo hi sz : Nat} (he : (T e).kd.known = true) {x : Operand} {es : List (Option (List D))} {fs : List (List D)} (hx : ev r [] x = some (.b (.l (.osl id lo hi sz)))) (hlk : look id r.own = some (.spread e es)) (hsz : Nat.beq sz (T e).size = true) (hf : (es.drop lo).take fs.length = fs.map some) : Src P T r e x (hi - lo) fs := fun X ρ M a W g => by
  have hs := Nat.eq_of_beq_eq_true hsz
  have hsize := (hT e he).size
  have hd : DenL P ρ M (.osl id lo hi sz) (a.eval x) := ev_den hx g (holds_nil _)
  rcases spread_at g hlk hd with ⟨ad', h6, h7, h8, h9, h10, h11⟩ | ⟨gb, n', cur, ad', h6, h7, h8, h9, h10, h11, h12, h13, h14⟩
  · subst h6
    have : fs = [] := List.eq_nil_of_length_eq_zero (by have := congrArg List.length hf; simp at this; exact this.symm)
    subst this
    exact ⟨ad', 0, [], by rw [h11, h7, h8], ⟨by simp, by simp⟩, fun h => absurd rfl h⟩
  · have hfl : fs.length ≤ es.length - lo := by have := congrArg List.length hf; simp at this; omega
    rw [hsize] at h9 h10
    refine ⟨ad', _, (cur.toList.drop (lo * (T e).size)).take (fs.length * (T e).size), h14, ⟨?_, fun i cs hi => ?_⟩, fun hne => ?_⟩
    · have hm : (lo + fs.length) * (T e).size ≤ es.length * (T e).size ∨ fs.length = 0 := by
        by_cases h0 : fs.length = 0
        · exact .inr h0
        · exact .inl (Nat.mul_le_mul_right _ (by omega))
      rcases hm with hm | hm
      · rw [Nat.add_mul] at hm
        simp; omega
      · simp [hm]
    · have hil : i < fs.length := (List.getElem?_eq_some_iff.1 hi).1
      have hi' : es[lo + i]? = some (some cs) := by
        have : ((es.drop lo).take fs.length)[i]? = some (some cs) := by rw [hf]; simp [hi]
        rw [List.getElem?_take, if_pos hil, List.getElem?_drop] at this
        exact this
      obtain ⟨q1, q2⟩ := h10 _ cs hi'
      refine ⟨q1, fun j y hj => ?_⟩
      obtain ⟨u, q3, q4⟩ := q2 j y hj
      refine ⟨u, ?_, q4⟩
      have hj' : j < (T e).size := by have := (List.getElem?_eq_some_iff.1 hj).1; omega
      rw [List.getElem?_take, if_pos, List.getElem?_drop, ← q3]
      · congr 1; rw [Nat.add_mul]; omega
      · calc i * (T e).size + j < i * (T e).size + (T e).size := by omega
          _ = (i + 1) * (T e).size := by rw [Nat.succ_mul]
          _ ≤ fs.length * (T e).size := Nat.mul_le_mul_right _ hil
    · have hpos : 0 < fs.length := List.length_pos_iff.2 hne
      rcases h13 with h13 | h13
      · omega
      · refine ⟨_, h13, fun j u hj => ?_⟩
        rw [List.getElem?_take] at hj
        split at hj
        · rw [List.getElem?_drop] at hj
          simp only [World.cell?, Addr.add_lit, h7, hs]
          simpa using hj
        · cases hj

/-- COPY into a part of a row of one's own. -/
theorem tl_copyOsl (hT : TabOK P T) {t t2 e id lo hi sz len : Nat} {x y : Operand} {es : List (Option (List D))} {fs : List (List D)} {args : Array Operand} {ts : Array TypeId} (ho : o.op = .call { callee := .builtin .copy, args := args, argTypes := ts }) (hargs : args = #[x, y]) (hts : ts = #[t, t2])
    (hz : (match o.dst with | some d => Nat.blt d r.sz | none => true) = true) (hk : (T t).kd = .slice e) (he : (T e).kd.known = true)
    (hx : ev r [] x = some (.b (.l (.osl id lo hi sz)))) (hlk : look id r.own = some (.spread e es)) (hsz : Nat.beq sz (T e).size = true) (hy : Src P T r e y len fs) (hlen : fs.length = min len (hi - lo)) (hhi : hi ≤ es.length) :
    Tl P o (recTurnV r o.dst (dl (.int .i64 (fs.length : Int))) id (.spread e (splice lo (fs.map some) es))) := by
  refine tl_turnV hz hlk fun X ρ M a W g => ?_
  subst hargs hts
  have hs := Nat.eq_of_beq_eq_true hsz
  have hsize := (hT e he).size
  have hu := kd_slice hT hk
  have hrs := (hT e he).run_size W
  have hd : DenL P ρ M (.osl id lo hi sz) (a.eval x) := ev_den hx g (holds_nil _)
  obtain ⟨A, c, ys, hye, hyr, hyc⟩ := hy X ρ M a W g
  refine ⟨.int .i64 (fs.length : Int), ?_⟩
  by_cases hne : fs = []
  · subst hne
    have hmin : Nat.min len (hi - lo) = 0 := by have := hlen; simp at this; exact this.symm
    refine ⟨W, ?_, .int _ _, .inl ⟨rfl, by simp [splice_nil]⟩⟩
    have run : ∀ (B : Option Addr) (m : Nat), (Builtin.copy_ #[t, t2] o.type #[.slice B (hi - lo) m, .slice A len c]).run P W = .ok (goInt 0) W := fun B m => by
      cases A <;> cases B <;> simp [Builtin.copy_, run_underlying hu, Builtin.lenOf, Builtin.firstCells, hrs, hmin, loadCells, loadCellsFrom, storeCells]
    rcases spread_at g hlk hd with ⟨ad', h6, h7, h8, h9, h10, h11⟩ | ⟨gb, n', cur, ad', h6, h7, h8, h9, h10, h11, h12, h13, h14⟩
    · have := run ad' 0
      rw [h7, h8] at this
      simp [execOp, ho, resolve, invoke, builtin, h11, hye, this, goInt]
    · simp [execOp, ho, resolve, invoke, builtin, h14, hye, run, goInt]
  · have hpos : 0 < fs.length := List.length_pos_iff.2 hne
    obtain ⟨ad, hA, hcell⟩ := hyc hne
    subst hA
    rcases spread_at g hlk hd with ⟨ad', h6, h7, h8, h9, h10, h11⟩ | ⟨gb, n', cur, ad', h6, h7, h8, h9, h10, h11, h12, h13, h14⟩
    · omega
    · have had : ad' = some ⟨gb, lo * sz, none⟩ := by
        rcases h13 with h13 | h13
        · omega
        · exact h13
      subst had
      have hyl : ys.length = fs.length * (T e).size := hyr.1
      have hmin : Nat.min len (hi - lo) = fs.length := hlen.symm
      have hfit0 : (lo + fs.length) * (T e).size ≤ es.length * (T e).size := Nat.mul_le_mul_right _ (by omega)
      rw [Nat.add_mul] at hfit0
      rw [hsize] at h9 h10
      have hfit : lo * sz + 0 + ys.length ≤ cur.size := by rw [hs]; omega
      have hst := run_storeCells_at P gb (lo * sz) e ys 0 cur W h7 hfit hyr.one
      have hld := run_firstCells_some (P := P) W (T e).size fs.length ad len c ys hyl hcell
      have hst' : (storeCells ⟨gb, lo * sz, none⟩ ys).run P W = .ok () (W.setRow gb (splice (lo * sz) ys cur.toList).toArray) := by
        rw [hst]; simp [splice]
      refine ⟨W.setRow gb (splice (lo * sz) ys cur.toList).toArray, ?_, .int _ _, .inr ⟨_, gb, h6, rfl, rfl, rfl, rfl, ?_, fun j hj => setRow_other W gb j _ hj, .inr ⟨gb, n', _, ?_, setRow_heap W gb _ _ _ _ h7, ?_, ?_, ?_⟩⟩⟩
      rotate_left
      · simp [World.setRow]
      · rw [splice_length (by simp; omega)]; exact h6
      · rw [splice_length (by simp; omega)]; exact h8
      · rw [splice_length (by simp; omega), hsize, ← h9]
        show (splice (lo * sz) ys cur.toList).length = cur.size
        rw [splice_length (by simp; omega)]; simp
      · rw [hsize]
        have := h10.splice hyr (lo := lo) (by omega) (by simpa using h9)
        simpa [splice, hs] using this
      · simp [execOp, ho, resolve, invoke, builtin, h14, hye, Builtin.copy_, run_underlying hu, Builtin.lenOf, hrs, hmin, hld, hst', goInt]

theorem rowRep_zeros {sz : Nat} {zs : List D} {z : Array Value} (hz : All2 (DenD P M) zs z.toList) (hs : z.size = sz) (n : Nat) : RowRep P M sz (List.replicate n zs) (Builtin.zeroCells z n).toList := by
  refine ⟨by simp [size_zeroCells, hs], fun i cs hi => ?_⟩
  rw [List.getElem?_replicate] at hi
  split at hi
  · rename_i hin
    simp at hi; subst hi
    have hl : zs.length = sz := by have := All2.length hz; simpa [hs] using this
    refine ⟨hl, fun j x hj => ?_⟩
    obtain ⟨u, h1, h2⟩ := All2.get hz hj
    have hj' : j < sz := by have := (List.getElem?_eq_some_iff.1 hj).1; omega
    refine ⟨u, ?_, h2⟩
    have hlt : i * sz + j < n * z.size := by
      rw [hs]
      calc i * sz + j < i * sz + sz := by omega
        _ = (i + 1) * sz := by rw [Nat.succ_mul]
        _ ≤ n * sz := Nat.mul_le_mul_right _ hin
    have hzj : z[j]? = some u := by simpa using h1
    have hmod : (i * sz + j) % z.size = j := by rw [hs, Nat.mul_comm, Nat.mul_add_mod, Nat.mod_eq_of_lt hj']
    simp only [Builtin.zeroCells, Array.getElem?_toList, Array.getElem?_map]
    rw [Array.getElem?_range, if_pos hlt]
    simp only [Option.map_some, hmod]
    rw [getElem!_def, hzj]
  · cases hi

/-- CLEAR of a part of a row of one's own. -/
theorem tl_clearOsl (hT : TabOK P T) {t e id lo hi sz : Nat} {x : Operand} {es : List (Option (List D))} {args : Array Operand} {ts : Array TypeId} (ho : o.op = .call { callee := .builtin .clear, args := args, argTypes := ts }) (hargs : args = #[x]) (hts : ts = #[t])
    (hd : o.dst = none) (hk : (T t).kd = .slice e) (he : (T e).kd.known = true) (hzl : lenL (T e).zero (T e).size = true)
    (hx : ev r [] x = some (.b (.l (.osl id lo hi sz)))) (hlk : look id r.own = some (.spread e es)) (hsz : Nat.beq sz (T e).size = true) :
    Tl P o (recTurnV r none (.tup []) id (.spread e (splice lo ((List.replicate (hi - lo) (T e).zero).map some) es))) := by
  rw [← hd]
  refine tl_turnV (by rw [hd]) hlk fun X ρ M a W g => ?_
  subst hargs hts
  have hs := Nat.eq_of_beq_eq_true hsz
  have hsize := (hT e he).size
  have hu := kd_slice hT hk
  obtain ⟨i, zv, hi', hsz', hby, hzv, hzd⟩ := (hT e he).info
  have hzs : zv.cells.size = (T e).size := by have := All2.length (hzd M); rw [lenL_eq hzl] at this; simpa using this.symm
  have hrz : ∀ W, (zeroValue e).run P W = .ok zv W := fun W => by simp [zeroValue, typeInfo, hi', hzv]
  have hd' : DenL P ρ M (.osl id lo hi sz) (a.eval x) := ev_den hx g (holds_nil _)
  refine ⟨.tuple #[], ?_⟩
  rcases spread_at g hlk hd' with ⟨ad', h6, h7, h8, h9, h10, h11⟩ | ⟨gb, n', cur, ad', h6, h7, h8, h9, h10, h11, h12, h13, h14⟩
  · subst h6 h7 h8 h10
    refine ⟨W, ?_, ⟨[], rfl, trivial⟩, .inl ⟨rfl, by simp [splice]⟩⟩
    simp [execOp, ho, resolve, invoke, builtin, h11, Builtin.clear_, run_underlying hu]
  · by_cases h0 : hi = lo
    · subst h0
      refine ⟨W, ?_, ⟨[], rfl, trivial⟩, .inl ⟨rfl, by simp [splice]⟩⟩
      cases ad' <;> simp [execOp, ho, resolve, invoke, builtin, h14, Builtin.clear_, run_underlying hu]
    · have had : ad' = some ⟨gb, lo * sz, none⟩ := by
        rcases h13 with h13 | h13
        · omega
        · exact h13
      subst had
      have hyr := rowRep_zeros (hzd M) hzs (hi - lo)
      generalize hys : (Builtin.zeroCells zv.cells (hi - lo)).toList = ys at hyr
      have hyl : ys.length = (hi - lo) * (T e).size := by simpa using hyr.1
      have hfit0 : (lo + (hi - lo)) * (T e).size ≤ es.length * (T e).size := Nat.mul_le_mul_right _ (by omega)
      rw [Nat.add_mul] at hfit0
      rw [hsize] at h9 h10
      have hfit : lo * sz + 0 + ys.length ≤ cur.size := by rw [hs]; omega
      have hst := run_storeCells_at P gb (lo * sz) e ys 0 cur W h7 hfit hyr.one
      have hst' : (storeCells ⟨gb, lo * sz, none⟩ ys).run P W = .ok () (W.setRow gb (splice (lo * sz) ys cur.toList).toArray) := by
        rw [hst]; simp [splice]
      refine ⟨W.setRow gb (splice (lo * sz) ys cur.toList).toArray, ?_, ⟨[], rfl, trivial⟩, .inr ⟨_, gb, h6, rfl, rfl, rfl, rfl, ?_, fun j hj => setRow_other W gb j _ hj, .inr ⟨gb, n', _, ?_, setRow_heap W gb _ _ _ _ h7, ?_, ?_, ?_⟩⟩⟩
      rotate_left
      · simp [World.setRow]
      · rw [splice_length (by simp; omega)]; exact h6
      · rw [splice_length (by simp; omega)]; exact h8
      · rw [splice_length (by simp; omega), hsize, ← h9]
        show (splice (lo * sz) ys cur.toList).length = cur.size
        rw [splice_length (by simp; omega)]; simp
      · rw [hsize]
        have := h10.splice hyr (lo := lo) (by simp; omega) (by simpa using h9)
        simpa [splice, hs] using this
      · obtain ⟨m, hm⟩ : ∃ m, hi - lo = m + 1 := ⟨hi - lo - 1, by omega⟩
        rw [hm] at hys h14
        simp [execOp, ho, resolve, invoke, builtin, h14, Builtin.clear_, run_underlying hu, hrz, hys, hst']

/-- APPEND to a part of a row of one's own, where there is room. -/
theorem tl_appendIn (hT : TabOK P T) {t e d id hi sz : Nat} {x y : Operand} {es : List (Option (List D))} {fs : List (List D)} {args : Array Operand} {ts : Array TypeId} (ho : o.op = .call { callee := .builtin .append, args := args, argTypes := ts }) (hargs : args = #[x, y]) (hts : ts = #[t, t])
    (hd : o.dst = some d) (hz : Nat.blt d r.sz = true) (hk : (T t).kd = .slice e) (he : (T e).kd.known = true)
    (hx : ev r [] x = some (.b (.l (.osl id 0 hi sz)))) (hlk : look id r.own = some (.spread e es)) (hsz : Nat.beq sz (T e).size = true) (hy : Src P T r e y fs.length fs) (hfits : hi + fs.length ≤ es.length) :
    Tl P o (recTurnV r (some d) (.b (.l (.osl id 0 (hi + fs.length) sz))) id (.spread e (splice hi (fs.map some) es))) := by
  rw [← hd]
  refine tl_turnV (by rw [hd]; exact hz) hlk fun X ρ M a W g => ?_
  subst hargs hts
  have hs := Nat.eq_of_beq_eq_true hsz
  have hsize := (hT e he).size
  have hu := kd_slice hT hk
  obtain ⟨i, zv, hi', hsz', hby, hzv, hzd⟩ := (hT e he).info
  have hrs := (hT e he).run_size W
  have hd' : DenL P ρ M (.osl id 0 hi sz) (a.eval x) := ev_den hx g (holds_nil _)
  obtain ⟨A, c, ys, hye, hyr, hyc⟩ := hy X ρ M a W g
  rcases spread_at g hlk hd' with ⟨ad', h6, h7, h8, h9, h10, h11⟩ | ⟨gb, n', cur, ad', h6, h7, h8, h9, h10, h11, h12, h13, h14⟩
  · subst h6 h8 h10
    obtain rfl : fs = [] := by simpa using hfits
    refine ⟨.slice none 0 0, W, ?_, ⟨none, 0, 0, none, h9, Nat.le_refl _, Nat.le_refl _, .inr rfl, rfl⟩, .inl ⟨rfl, by simp [splice]⟩⟩
    cases A <;> simp [execOp, ho, resolve, invoke, builtin, h11, hye, Builtin.append_, run_underlying hu, hrs, Builtin.lenOf, Builtin.firstCells, loadCells, loadCellsFrom]
  · have had : ad' = some ⟨gb, 0, none⟩ := by
      rcases h13 with h13 | h13
      · omega
      · simpa using h13
    subst had
    have hx0 : a.eval x = .slice (some ⟨gb, 0, none⟩) hi es.length := by simpa using h14
    have hres : DenL P ρ M (.osl id 0 (hi + fs.length) sz) (.slice (some ⟨gb, 0, none⟩) (hi + fs.length) es.length) := ⟨_, _, _, some ⟨gb, 0, none⟩, h6, Nat.zero_le _, hfits, .inr (by simp [Addr.add]), rfl⟩
    by_cases hne : fs = []
    · subst hne
      refine ⟨.slice (some ⟨gb, 0, none⟩) hi es.length, W, ?_, hres, .inl ⟨rfl, by simp [splice_nil]⟩⟩
      cases A <;> simp [execOp, ho, resolve, invoke, builtin, hx0, hye, Builtin.append_, run_underlying hu, hrs, Builtin.lenOf, Builtin.firstCells, loadCells, loadCellsFrom, h12, storeCells]
    · have hpos : 0 < fs.length := List.length_pos_iff.2 hne
      obtain ⟨ad, hA, hcell⟩ := hyc hne
      subst hA
      have hyl : ys.length = fs.length * i.size := by rw [hsz']; exact hyr.1
      have hfit0 : (hi + fs.length) * (T e).size ≤ es.length * (T e).size := Nat.mul_le_mul_right _ (by omega)
      rw [Nat.add_mul] at hfit0
      rw [hsize] at h9 h10
      have hyl2 : ys.length = fs.length * (T e).size := hyr.1
      have hrun := run_append_room (P := P) W t o.type e i hu hi' gb hi es.length cur h7 ad fs.length c ys hyl hcell hyr.one hfits (by rw [hsz']; omega)
      refine ⟨.slice (some ⟨gb, 0, none⟩) (hi + fs.length) es.length, W.setRow gb (splice (hi * (T e).size) ys cur.toList).toArray, ?_, hres, .inr ⟨_, gb, h6, rfl, rfl, rfl, rfl, ?_, fun j hj => setRow_other W gb j _ hj, .inr ⟨gb, n', _, ?_, setRow_heap W gb _ _ _ _ h7, ?_, ?_, ?_⟩⟩⟩
      rotate_left
      · simp [World.setRow]
      · rw [splice_length (by simp; omega)]; exact h6
      · rw [splice_length (by simp; omega)]; exact h8
      · rw [splice_length (by simp; omega), hsize, ← h9]
        show (splice (hi * (T e).size) ys cur.toList).length = cur.size
        rw [splice_length (by simp; omega)]; simp
      · rw [hsize]
        have := h10.splice hyr (lo := hi) (by omega) (by simpa using h9)
        simpa using this
      · have hsp : (splice (hi * (T e).size) ys cur.toList) = cur.toList.take (hi * i.size) ++ ys ++ cur.toList.drop (hi * i.size + ys.length) := by rw [hsz']; simp [splice]
        rw [hsp]
        simp [execOp, ho, resolve, invoke, builtin, hx0, hye, hrun]

/-- APPEND of so many zeros to a part of a row of one's own, where there is no room: a new row. -/
theorem tl_appendExt (hT : TabOK P T) {t tn e d n id hi sz : Nat} {x y : Operand} {kn k1 : IntKind} {z : Int} {m : Nat} {es : List (Option (List D))} {fs : List (List D)} {args : Array Operand} {ts : Array TypeId} (ho : o.op = .call { callee := .builtin .append, args := args, argTypes := ts }) (hargs : args = #[x, y]) (hts : ts = #[t, tn])
    (hd : o.dst = some d) (hz : Nat.blt d r.sz = true) (hk : (T t).kd = .slice e) (hkn : (T tn).kd = .int kn) (he : (T e).kd.known = true) (hpos : (Nat.blt 0 (T e).size && lenL (T e).zero (T e).size) = true)
    (hx : ev r [] x = some (.b (.l (.osl id 0 hi sz)))) (hlk : look id r.own = some (.spread e es)) (hsz : Nat.beq sz (T e).size = true) (hf : es.take hi = fs.map some) (hy : ev r [] y = some (dl (.int k1 z))) (hm : z = (m : Int)) (hm0 : 0 < m)
    (hno : es.length < hi + m) (hb : (hi + m) * (T e).bytes ≤ room) (hmx : hi + m ≤ maxLen) :
    Tl P o (recNew r d (.orow n) n (.row e (fs ++ List.replicate m (T e).zero)) []) := by
  refine tl_new hd hz fun X ρ M s a W g gs hsub => ?_
  subst hargs hts hm
  have hs := Nat.eq_of_beq_eq_true hsz
  simp only [Bool.and_eq_true] at hpos
  have ht := hT e he
  have hsize := ht.size
  have hu := kd_slice hT hk
  have hun : P.underlying tn = some (.int kn) := by have h1 := (hT tn (known_of hkn rfl)).kd; rwa [hkn] at h1
  obtain ⟨i, zv, hi', hsz', hby, hzv, hzd⟩ := ht.info
  have hzs : zv.cells.size = (T e).size := by have := All2.length (hzd M); rw [lenL_eq hpos.2] at this; simpa using this.symm
  have hd' : DenL P ρ M (.osl id 0 hi sz) (a.eval x) := ev_den hx g (holds_nil _)
  have hye := den_int (ev_den hy g (holds_nil _))
  have hp0 := blt_lt hpos.1
  have main : ∃ B xs, a.eval x = .slice B hi es.length ∧ RowRep P M (T e).size fs xs ∧ fs.length = hi ∧ (Builtin.firstCells i.size hi (.slice B hi es.length)).run P W.drew = .ok xs.toArray W.drew := by
    rcases spread_at g hlk hd' with ⟨ad', h6, h7, h8, h9, h10, h11⟩ | ⟨gb, n', cur, ad', h6, h7, h8, h9, h10, h11, h12, h13, h14⟩
    · subst h6 h8 h10
      obtain rfl : fs = [] := by simpa using hf.symm
      exact ⟨none, [], by simpa using h11, ⟨by simp, by simp⟩, rfl, by simp [Builtin.firstCells]⟩
    · have had : ad' = some ⟨gb, 0, none⟩ := by
        rcases h13 with h13 | h13
        · omega
        · simpa using h13
      subst had
      have hlen : fs.length = hi := by have := congrArg List.length hf; simp at this; omega
      rw [hsize] at h9 h10
      have hle : hi * (T e).size ≤ es.length * (T e).size := Nat.mul_le_mul_right _ h12
      refine ⟨some ⟨gb, 0, none⟩, cur.toList.take (hi * (T e).size), by simpa using h14, h10.row hf h12 (by simpa using h9), hlen, ?_⟩
      refine run_firstCells_some (P := P) W.drew i.size hi ⟨gb, 0, none⟩ hi es.length _ (by rw [hsz']; simp; omega) fun j u hj => ?_
      rw [List.getElem?_take] at hj
      split at hj
      · have h7' : W.drew.heap[gb]? = some (.cells cur e (0, 0)) := h7
        simp only [World.cell?, Addr.add_lit, h7']
        simpa using hj
      · cases hj
  obtain ⟨B, xs, hxe, hxr, hlen, hfc⟩ := main
  have hmul : m * (T e).bytes ≤ (hi + m) * (T e).bytes := Nat.mul_le_mul_right _ (by omega)
  simp only [room] at hb
  have hr := Lib.run_append_grow_zeros (P := P) W t tn o.type e i zv k1 kn hu hun hi' hzv B hi es.length xs hfc m hm0 (by rw [hsz']; exact hp0) hno (by have := hmx; simp only [maxLen] at this; omega) (by rw [hby]; omega) (growslice_fits hno (by rw [hby]; exact hb))
  have hge := grownCap_ge W (hi + m) es.length e
  have hcm : grownCap W (hi + m) es.length e ≤ maxLen := grownCap_le_maxLen W (hi + m) es.length e hmx
  generalize hG : grownCap W (hi + m) es.length e = G at hr hge hcm
  have hz := rowRep_zeros (hzd M) hzs m
  have hrow := hxr.app hz
  generalize hcur : (xs.toArray ++ Builtin.zeroCells zv.cells m ++ Builtin.zeroCells zv.cells (G - (hi + m))) = cur at hr
  have hcl : cur.toList = (xs ++ (Builtin.zeroCells zv.cells m).toList) ++ (Builtin.zeroCells zv.cells (G - (hi + m))).toList := by rw [← hcur]; simp
  have hxl : (xs ++ (Builtin.zeroCells zv.cells m).toList).length = (hi + m) * (T e).size := by
    have := hrow.1
    simp only [List.length_append, List.length_replicate, hlen] at this ⊢
    exact this
  refine ⟨.slice (some ⟨W.heap.size, 0, none⟩) (hi + m) G, W.drew.alloc (.cells cur e), ?_, rfl, rfl, rfl, by simp, fun j hj _ => heap_alloc_old W.drew _ hj, .slice (some ⟨W.heap.size, 0, none⟩) (hi + m) G, fun k hk => .inl (by simp [gOf] at hk; omega), fun ρ' _ hn => ⟨⟨.slice (some ⟨W.heap.size, 0, none⟩) (hi + m) G, xs ++ (Builtin.zeroCells zv.cells m).toList, hn, ⟨?_, .inr ⟨W.heap.size, G, cur, ?_, Nat.zero_le _, heap_alloc_new W.drew _, ?_, hcm, ?_, ?_⟩⟩, ?_, ?_⟩, ⟨hn, _, _, _, rfl⟩⟩⟩
  · simp [execOp, ho, resolve, invoke, builtin, hxe, hye, hr]
  · rw [hxl]; simp [hlen, hsize]
  · simp [hlen]
  · simp only [List.length_append, List.length_replicate, hlen]; exact hge
  · rw [hsize]
    have h1 := congrArg List.length hcl
    rw [List.length_append, hxl, Array.length_toList, Array.length_toList, size_zeroCells, hzs, ← Nat.add_mul] at h1
    rw [h1]; congr 1; omega
  · rw [hcl, hsize]
    simp only [List.length_append, List.length_replicate, hlen]
    rw [← hxl, List.take_left']
    simp
  · rw [hsize]; exact hrow
  · rw [ht.bytes]
    simp only [List.length_append, List.length_replicate, hlen, room]; omega
end Go.Cel

set_option linter.unusedVariables false
set_option linter.unusedSimpArgs false
namespace Go.Cel
variable {P : Program} {T : Nat → Ty} {X : CtxD} {ρ : Rho} {M : Imm} {r s s' : St} {a : Act} {W : World} {p : Path} {o : Oper} {v : A}

/-- How long a row of one's own can be. -/
theorem row_len (g : Gam P X ρ M s a W) {id : Nat} {t : TypeId} {es : List (List D)} (h : look id s.own = some (.row t es)) : es.length ≤ maxLen ∧ es.length * P.bytesOf t ≤ room := by
  obtain ⟨v, xs, h1, h2, h3, h4⟩ := g.own _ _ (look_mem h)
  refine ⟨?_, h4⟩
  rcases h2.2 with ⟨_, h0⟩ | ⟨gb, cap, cur, rfl, _, hg, hnc, hcm, hcs, htake⟩
  · omega
  · omega
theorem V_lenR {k : List It} {Q : Post} (id : Nat) {t : TypeId} {es : List (List D)} (h : look id s.own = some (.row t es)) (hv : es.length ≤ maxLen → es.length * P.bytesOf t ≤ room → V P X k s Q) : V P X k s Q := fun ρ M a W g => by
  have := row_len g h
  exact hv this.1 this.2 ρ M a W g
theorem VL_lenR {all ops : List Oper} {k : List It} {Q : Post} (id : Nat) {t : TypeId} {es : List (List D)} (h : look id s.own = some (.row t es)) (hv : es.length ≤ maxLen → es.length * P.bytesOf t ≤ room → VL P X all ops k s Q) : VL P X all ops k s Q := fun ρ M a W g => by
  have := row_len g h
  exact hv this.1 this.2 ρ M a W g

/-- A value that is not looked at. -/
theorem Gam.putU (g : Gam P X ρ M s a W) {d : Nat} (hr : look d s.regs = none) (hg : look d s.gv = none) (x : Value) : Gam P X ρ M s (a.put (some d) x) W := by
  refine ⟨g.toMem, fun k p v hk => ?_, g.wfr, fun k q y hk => ?_, g.wfg, g.asm, g.defers, ?_⟩
  · have hne : k ≠ d := fun e => by subst e; rw [hr] at hk; cases hk
    obtain ⟨y, h1, h2⟩ := g.regs k p v hk
    exact ⟨y, by simpa [Act.put, Array.getElem?_setIfInBounds, Ne.symm hne] using h1, h2⟩
  · have hne : k ≠ d := fun e => by subst e; rw [hg] at hk; cases hk
    obtain ⟨z, h1, h2⟩ := g.gv k q y hk
    exact ⟨z, by simpa [Act.put, Array.getElem?_setIfInBounds, Ne.symm hne] using h1, h2⟩
  · simpa [Act.put] using g.sz

/-- AN OPERATION THAT YIELDS something, and turns nothing. -/
def YlU (P : Program) (o : Oper) (r : St) : Prop := ∀ X ρ M a W, Gam P X ρ M r a W → ∃ x, (execOp a.eval o).run P W = .ok (.value x) W
theorem VL_U (hT : TabOK P T) {n d : Nat} {all rest : List Oper} {k : List It} {Q : Post} {t : Nat} {all' ops' : List Oper} {k' : List It} {s'' : St}
    (hy : YlU P o s) (hg : ready all s o = true) (hd : o.dst = some d) (hr : look d s.regs = none) (hgv : look d s.gv = none)
    (h : resume T n all rest k s = ⟨t, all', ops', k', s''⟩) (hv : VO P X ⟨t, all', ops', k', s''⟩ Q) : VL P X all (o :: rest) k s Q := by
  intro ρ M a W g
  obtain ⟨x, h1⟩ := hy X ρ M a W g
  refine wpList_do (ready_wanted g hg) ?_
  unfold Oper.wp
  rw [h1]
  show wpList _ _ _ _ (a.put o.dst x) W
  rw [hd]
  exact VL_go hT h hv ρ M _ W (g.putU hr hgv x)

/-- Two blocks are apart. -/
theorem ylu_slice3 (hT : TabOK P T) {t e id lo hi sz : Nat} {x : Operand} {l' h' m' : Operand} {es : List (Option (List D))} {k1 k2 k3 : IntKind} {z1 z2 z3 : Int} (ho : o.op = .slice t x (some l') (some h') (some m')) (hk : (T t).kd = .slice e) (he : (T e).kd.known = true)
    (hx : ev r [] x = some (.b (.l (.osl id lo hi sz)))) (hlk : look id r.own = some (.spread e es)) (h1 : ev r [] l' = some (dl (.int k1 z1))) (h2 : ev r [] h' = some (dl (.int k2 z2))) (h3 : ev r [] m' = some (dl (.int k3 z3)))
    (hl : 0 ≤ z1) (hlh : z1 ≤ z2) (hhm : z2 ≤ z3) (hm : z3 ≤ ((es.length - lo : Nat) : Int)) : YlU P o r := fun X ρ M a W g => by
  have hd : DenL P ρ M (.osl id lo hi sz) (a.eval x) := ev_den hx g (holds_nil _)
  have e1 := den_int (ev_den h1 g (holds_nil _))
  have e2 := den_int (ev_den h2 g (holds_nil _))
  have e3 := den_int (ev_den h3 g (holds_nil _))
  have hu := kd_slice hT hk
  have hel : P.elem t = e := by simp [Program.elem, hu]
  have hu' : P.underlying t = some (.slice (P.elem t)) := by rw [hel]; exact hu
  have hsz := (hT e he).run_size W
  have main : ∃ A n, a.eval x = .slice A n (es.length - lo) := by
    rcases spread_at g hlk hd with ⟨ad', h6, h7, h8, h9, h10, h11⟩ | ⟨gb, n', cur, ad', h6, _, _, _, _, _, _, _, h11⟩
    · exact ⟨ad', 0, by rw [h11, h6]; simp⟩
    · exact ⟨_, _, h11⟩
  obtain ⟨A, n, hxe⟩ := main
  refine ⟨sliced A z1.toNat z2.toNat z3.toNat (T e).size, ?_⟩
  simp only [execOp, ho, Option.map_some, hxe, e1, e2, e3, run_sliceAt_slice (h := hu'), Sem.run_bind]
  rw [run_slice_lhm W t A n _ hu' k1 k2 k3 z1 z2 z3 hl hlh hhm hm, hel, hsz]
  simp only [Result.andThen_ok, Sem.run_pure]

/-- A call of a function that the machine gives. -/
theorem ext_run {f : FuncId} {fn : Func} {e : Array Value → Sem Value} {args : Array Operand} {ts : Array TypeId} (ho : o.op = .call { callee := .value (.func f), args := args, argTypes := ts }) (hf : P.funcs[f]? = some fn) (hname : (fn.name == "runtime.NumGoroutine") = false)
    (hb : fn.body.isNone = true) (hn : Extern.findNext fn = none) (he : Extern.find fn = some e) : (execOp a.eval o).run P W = ((e (args.map a.eval)).run P W).andThen fun v w' => .ok (.value v) w' := by
  rw [← run_callFunc_standIn hf hname hb hn he]
  simp [execOp, ho, resolve, Act.eval, Deferred.ofValue, invoke]

/-- what a slice of one's own says: its block. -/
theorem own_slice (g : Gam P X ρ M s a W) {id : Nat} {b : Blk} (hm : (id, b) ∈ s.own) {A : Option Addr} {n c : Nat} (h : ρ id = some (.slice A n c)) : A = none ∨ ∃ gb cur t, A = some ⟨gb, 0, none⟩ ∧ W.heap[gb]? = some (.cells cur t (0, 0)) := by
  have hb := g.own _ _ hm
  cases b with
  | cells cs t => obtain ⟨_, _, h1, _⟩ := hb; rw [h] at h1; cases h1
  | row t es =>
    obtain ⟨v, xs, h1, h2, _⟩ := hb
    rw [h] at h1; cases h1
    rcases h2.2 with ⟨h3, _⟩ | ⟨gb, cap, cur, h3, _, h4, _⟩
    · cases h3; exact .inl rfl
    · cases h3; exact .inr ⟨gb, cur, t, rfl, h4⟩
  | spread t es =>
    rcases hb with ⟨h1, _⟩ | ⟨gb, n', cur, h1, h2, _⟩
    · rw [h] at h1; cases h1; exact .inl rfl
    · rw [h] at h1; cases h1; exact .inr ⟨gb, cur, t, rfl, h2⟩
  | rowp t es i cs =>
    obtain ⟨v, xs, h1, h2, _⟩ := hb
    rw [h] at h1; cases h1
    rcases h2.2 with ⟨h3, _⟩ | ⟨gb, cap, cur, h3, _, h4, _⟩
    · cases h3; exact .inl rfl
    · cases h3; exact .inr ⟨gb, cur, t, rfl, h4⟩
  | map t m => obtain ⟨_, _, _, h1, _⟩ := hb; rw [h] at h1; cases h1

theorem overlaps_eq (params rs : Array TypeId) (a b : Option Addr) (la ca lb cb : Nat) : Extern.SlicesOverlaps.overlaps params rs #[.slice a la ca, .slice b lb cb] = (do
    let some t := params[0]? | stuck "slices.overlaps: no parameter types"
    let .slice elem ← underlying t | stuck "slices.overlaps: slice type expected"
    let size ← sizeOf elem
    match a, b with
    | some a, some b =>
      if la = 0 ∨ lb = 0 ∨ size = 0 then pure (.bool false)
      else if a.block != b.block && (← frozen a) && (← frozen b) then unsupported .addressObserved
      else do
        if a.block != b.block then do
          noView a; noView b
          if ← mayBeOne a b then return .bool ((← choose (.extern "sameAddr.stringBytes" 2)) == 1)
        pure (.bool (a.block == b.block && a.off < b.off + lb * size && b.off < a.off + la * size))
    | _, _ => pure (.bool false)) := rfl

/-- Parts of different blocks of one's own do not overlap. -/
theorem yl_apart (hT : TabOK P T) {f : FuncId} {fn : Func} {x y : Operand} {args : Array Operand} {ts : Array TypeId} {id id2 lo hi sz t t2 e : Nat} {b b2 : Blk} (ho : o.op = .call { callee := .value (.func f), args := args, argTypes := ts }) (hargs : args = #[x, y]) (hf : P.funcs[f]? = some fn) (hname : (fn.name == "runtime.NumGoroutine") = false)
    (hb : fn.body.isNone = true) (hn : Extern.findNext fn = none) (hpar : fn.params = #[t, t2]) (he : Extern.find fn = some (Extern.SlicesOverlaps.overlaps fn.params fn.resultTypes)) (hk : (T t).kd = .slice e) (hek : (T e).kd.known = true)
    (hx : ev r p x = some (.b (.l (.orow id)))) (hy : ev r p y = some (.b (.l (.osl id2 lo hi sz)))) (hl : look id r.own = some b) (hl2 : look id2 r.own = some b2) (hne : Nat.beq id id2 = false) (hp : pin r p = true) : Yl P o r p (dl (.bool false)) := by
  refine .of hp fun X ρ M a W g hh => ?_
  subst hargs
  obtain ⟨hr1, A, n, c, hxe⟩ := ev_den hx g hh
  obtain ⟨A2, n2, c2, ad2, h1, h2, h3, h4, hye⟩ := ev_den hy g hh
  rw [hxe] at hr1
  refine ⟨.bool false, ?_, .bool _⟩
  rw [ext_run ho hf hname hb hn he]
  have hsz := (hT e hek).run_size W
  have hu := kd_slice hT hk
  have hidne : id ≠ id2 := fun e => by subst e; rw [Nat.beq_refl] at hne; cases hne
  simp only [List.map_toArray, List.map_cons, List.map_nil, hxe, hye, hpar, overlaps_eq]
  by_cases hz : hi - lo = 0
  · cases A <;> cases ad2 <;> simp [run_underlying hu, hsz, hz]
  · have had : ad2 = A2.map fun b => b.add (lo * sz) := by
      rcases h4 with h4 | h4
      · omega
      · exact h4
    rcases own_slice g (look_mem hl) hr1 with rfl | ⟨gb, cur, t1, rfl, hg1⟩
    · cases ad2 <;> simp [run_underlying hu, hsz]
    · rcases own_slice g (look_mem hl2) h1 with rfl | ⟨gb2, cur2, t3, rfl, hg2⟩
      · subst had; simp [run_underlying hu, hsz]
      · subst had
        have hgne : gb ≠ gb2 := fun e => by
          subst e
          exact hidne (g.dist id b id2 b2 _ _ gb (look_mem hl) (look_mem hl2) hr1 h1 rfl rfl).1
        simp [run_underlying hu, hsz, Addr.add_lit, hgne]
        have hf1 : ∀ off, W.frozen? ⟨gb, off, none⟩ = false := fun off => by simp [World.frozen?, hg1]
        have hf2 : ∀ off, W.frozen? ⟨gb2, off, none⟩ = false := fun off => by simp [World.frozen?, hg2]
        have hn1 : (noView ⟨gb, 0, none⟩).run P W = .ok () W := by simp [noView, viewAt, World.shape?, hg1]
        have hn2 : (noView ⟨gb2, lo * sz, none⟩).run P W = .ok () W := by simp [noView, viewAt, World.shape?, hg2]
        have hm : (mayBeOne ⟨gb, 0, none⟩ ⟨gb2, lo * sz, none⟩).run P W = .ok false W := by simp [mayBeOne, stringish, hf1, hf2, World.shape?, hg1, hg2]
        intro _ _ _
        simp [hf1, hn1, hn2, hm, hgne]
end Go.Cel
