/- CelD: the evaluator's values are the machine's, operation by operation. -/
import Derived.Test.YtflmcnpfeikoeaaGreatDoorK00
import Derived.Laws.AppendOwn
set_option linter.unusedVariables false
set_option linter.unusedSimpArgs false
namespace Go.Cel
variable {P : Program} {T : Nat → Ty} {X : CtxD} {ρ : Rho} {M : Imm} {s : St} {a : Act} {W : World} {p : Path} {o : Oper} {v : A}

abbrev Yields (P : Program) (ρ : Rho) (M : Imm) (a : Act) (W : World) (o : Oper) (v : A) : Prop :=
  ∃ x, (execOp a.eval o).run P W = .ok (.value x) W ∧ DenA P ρ M v x

theorem den_int {k : IntKind} {n : Int} {x : Value} (h : DenA P ρ M (dl (.int k n)) x) : x = .int k n := by cases h; rfl
theorem den_bool {b : Bool} {x : Value} (h : DenA P ρ M (dl (.bool b)) x) : x = .bool b := by cases h; rfl
theorem den_str {b : ByteArray} {x : Value} (h : DenA P ρ M (dl (.str b)) x) : x = .string b := by cases h; rfl

theorem yields_move {x : Operand} (ho : o.op = .move x ∨ o.op = .assign x) (h : ev s p x = some v) (g : Gam P X ρ M s a W) (hp : holds s.gv p) : Yields P ρ M a W o v := by
  refine ⟨a.eval x, ?_, ev_den h g hp⟩
  rcases ho with ho | ho <;> simp [execOp, ho]

theorem yields_pick {c : Nat} {x y : Operand} (ho : o.op = .pick (.tmp c) x y) (h : evP T s p (.pick (.tmp c) x y) = some v) (g : Gam P X ρ M s a W) (hp : holds s.gv p) : Yields P ρ M a W o v := by
  simp only [evP] at h
  split at h
  · rename_i b q u hc hy hx
    simp only [Option.some.injEq] at h; subst h
    have hcb := den_bool (ev_den hc g hp)
    cases b with
    | true =>
      have := den_bool (ev_pick hx g hp hcb)
      exact ⟨.bool q, by simp [execOp, ho, hcb, asBool, this], .bool q⟩
    | false => exact ⟨.bool false, by simp [execOp, ho, hcb, asBool, show a.eval (.const (.bool false)) = .bool false from rfl], .bool false⟩
  · rename_i b u q hc _ hy hx
    simp only [Option.some.injEq] at h; subst h
    have hcb := den_bool (ev_den hc g hp)
    cases b with
    | true => exact ⟨.bool true, by simp [execOp, ho, hcb, asBool, show a.eval (.const (.bool true)) = .bool true from rfl], .bool true⟩
    | false =>
      have := den_bool (ev_pick hy g hp hcb)
      exact ⟨.bool q, by simp [execOp, ho, hcb, asBool, this], .bool q⟩
  · simp at h

/-- a field's place. -/
theorem run_fieldAt {t : TypeId} {fs : List (Nat × Nat)} {f off ft : Nat} (hk : kdOK P t (.struct fs)) (hf : fs[f]? = some (off, ft)) (ad : Addr) :
    (Instr.fieldAt t (.pointer (some ad)) f).run P W = .ok (.pointer (some (ad.add off))) W := by
  obtain ⟨fields, hu, hm, hz⟩ := hk
  have : fields[f]? = some (fields[f]?.getD default) ∧ (fields[f]?.getD default).offset = off ∧ (fields[f]?.getD default).type = ft := by
    rw [← hm] at hf
    simp only [List.getElem?_map, Array.getElem?_toList, Option.map_eq_some_iff] at hf
    obtain ⟨x, h1, h2⟩ := hf
    rw [h1]; simp at h2 ⊢; exact h2
  obtain ⟨h1, h2, h3⟩ := this
  have hmem : (fields[f]?.getD default) ∈ fields.toList := by
    exact List.mem_of_getElem? ((Array.getElem?_toList (xs := fields) (i := f)).trans h1)
  obtain ⟨hne, i, hi⟩ := hz _ hmem
  have hsz : (sizeOf (fields[f]?.getD default).type).run P W = .ok i.size W := by simp [sizeOf, typeInfo, hi]
  have hi0 : i.size ≠ 0 := by simpa [Program.cellsOf, hi] using hne
  unfold Instr.fieldAt
  simp only [Sem.run_bind, run_underlying hu, Result.andThen_ok]
  rw [h1]
  simp only [Sem.run_bind, Instr.sureAddr, Sem.run_pure, Result.andThen_ok, fieldPlace, hsz, hi0, if_false, h2]

theorem known_of {t : Nat} {k : Kd} (h : (T t).kd = k) (hk : k.known = true) : (T t).kd.known = true := by rw [h]; exact hk

theorem yields_fieldAddr (hT : TabOK P T) {t f : Nat} {x : Operand} (ho : o.op = .fieldAddr t x f) (h : evP T s p (.fieldAddr t x f) = some v) (g : Gam P X ρ M s a W) (hp : holds s.gv p) : Yields P ρ M a W o v := by
  simp only [evP] at h
  split at h
  · rename_i fs x' hk hx
    have hd := ev_den hx g hp
    have hkd := (hT t (known_of hk rfl)).kd
    rw [hk] at hkd
    split at h
    · rename_i off ft id o' hf
      simp only [Option.some.injEq] at h; subst h
      obtain ⟨b, h1, h2⟩ := hd
      refine ⟨.pointer (some ⟨b, o' + off, none⟩), ?_, b, h1, rfl⟩
      simp [execOp, ho, h2, run_fieldAt hkd hf, Addr.add_lit]
    · rename_i off ft id i o' sz hf
      simp only [Option.some.injEq] at h; subst h
      obtain ⟨b, n, c, h1, h2⟩ := hd
      refine ⟨.pointer (some ⟨b, i * sz + (o' + off), none⟩), ?_, b, n, c, h1, rfl⟩
      simp [execOp, ho, h2, run_fieldAt hkd hf, Nat.add_assoc, Addr.add_lit]
    · rename_i off ft cs hf
      rw [dropGo_eq] at h
      simp only [Option.some.injEq] at h; subst h
      generalize hxe : a.eval x = xv at hd
      change DenD P M (.eptr cs) xv at hd
      cases hd with
      | eptr _ ad fn hcell hden =>
        refine ⟨.pointer (some (ad.add off)), ?_, .eptr _ _ (fun j => fn (off + j)) ?_ ?_⟩
        · simp [execOp, ho, hxe, run_fieldAt hkd hf]
        · intro j y hy
          rw [Addr.add_add]
          exact hcell _ _ (by simpa using hy)
        · intro j y hy
          exact hden _ _ (by simpa using hy)
    · simp at h
  · simp at h

theorem yields_field (hT : TabOK P T) {t f : Nat} {x : Operand} (ho : o.op = .field t x f) (h : evP T s p (.field t x f) = some v) (g : Gam P X ρ M s a W) (hp : holds s.gv p) : Yields P ρ M a W o v := by
  simp only [evP] at h
  split at h
  · rename_i fs cs hk hx
    obtain ⟨vs, he, h2⟩ := ev_den hx g hp
    have hkd := (hT t (known_of hk rfl)).kd
    rw [hk] at hkd
    split at h
    · rename_i off ft hf
      cases hkn : (T ft).kd.known with
      | false => simp [hkn] at h
      | true =>
        simp only [hkn, cond_true] at h
        have htf := hT ft hkn
        obtain ⟨fields, hu, hm, hz⟩ := hkd
        have hfe : ∃ fd, fields[f]? = some fd ∧ fd.offset = off ∧ fd.type = ft := by
          rw [← hm] at hf
          simp only [List.getElem?_map, Array.getElem?_toList, Option.map_eq_some_iff] at hf
          obtain ⟨y, h1, h2⟩ := hf
          simp at h2
          exact ⟨y, h1, h2⟩
        obtain ⟨fd, hfd, rfl, rfl⟩ := hfe
        rcases readL_some h with ⟨ha, _, hl, rfl⟩ | ⟨ha, y, hy, rfl⟩
        · refine ⟨.agg (((vs.drop fd.offset).take (T fd.type).size)).toArray, ?_, _, rfl, All2.take _ (All2.drop _ h2)⟩
          simp [execOp, ho, he, Instr.field, run_underlying hu, hfd, asAgg, part, htf.run_agg hkn, ha, htf.run_size, List.extract_eq_take_drop]
        · obtain ⟨z, hz', hd⟩ := All2.get h2 hy
          refine ⟨z, ?_, hd⟩
          simp [execOp, ho, he, Instr.field, run_underlying hu, hfd, asAgg, part, htf.run_agg hkn, ha, hz']
    · simp at h
  · simp at h

theorem own_cells {id : Nat} {cs : List L} {t : TypeId} (g : Gam P X ρ M s a W) (h : look id s.own = some (.cells cs t)) :
    ∃ b vs, ρ id = some (.pointer (some ⟨b, 0, none⟩)) ∧ W.heap[b]? = some (.cells (List.toArray vs) t (0, 0)) ∧ All2 (DenL P ρ M) cs vs := g.own _ _ (look_mem h)

theorem yields_load (hT : TabOK P T) {t : Nat} {x : Operand} (ho : o.op = .load t x) (h : evP T s p (.load t x) = some v) (g : Gam P X ρ M s a W) (hp : holds s.gv p) : Yields P ρ M a W o v := by
  simp only [evP] at h
  cases hkn : (T t).kd.known with
  | false => simp [hkn] at h
  | true =>
    simp only [hkn, cond_true] at h
    have ht := hT t hkn
    split at h
    · rename_i id off hx
      obtain ⟨b, h1, h2⟩ := ev_den hx g hp
      split at h
      · rename_i cs bt hl
        obtain ⟨b', vs, h3, hh, hall⟩ := own_cells g hl
        rw [h1] at h3; simp at h3; subst h3
        have hcell : ∀ (j : Nat) (u : Value), (vs.drop off)[j]? = some u → W.cell? ((⟨b, off, none⟩ : Addr).add j) = some u := by
          intro j u hu
          simp at hu
          simp [World.cell?, Addr.add_lit, hh, hu]
        have hr := run_load_at (W := W) ht hkn ⟨b, off, none⟩
        rcases readL_some h with ⟨ha, _, hlen, rfl⟩ | ⟨ha, y, hy, rfl⟩
        · have hl' : ((vs.drop off).take (T t).size).length = (T t).size := by
            have := All2.length hall
            simp at hlen ⊢; omega
          refine ⟨.agg ((vs.drop off).take (T t).size).toArray, ?_, _, rfl, All2.take _ (All2.drop _ hall)⟩
          have := (hr ((vs.drop off).take (T t).size) (fun j u hu => hcell j u (by rw [List.getElem?_take] at hu; split at hu <;> first | exact hu | simp at hu))).1 ha hl'
          simp [execOp, ho, h2, this]
        · obtain ⟨z, hz, hd⟩ := All2.get hall hy
          refine ⟨z, ?_, hd⟩
          have := (hr (vs.drop off) hcell).2 ha z (by simpa using hz)
          simp [execOp, ho, h2, this]
      · simp at h
    · rename_i cs hx
      have hd := ev_den hx g hp
      generalize hxe : a.eval x = xv at hd
      change DenD P M (.eptr cs) xv at hd
      cases hd with
      | eptr _ ad fn hcell hden =>
        have hr := run_load_at (W := W) ht hkn ad
        rcases readD_some h with ⟨ha, hlen, rfl⟩ | ⟨ha, y, hy, rfl⟩
        · have hvs : ∀ j y, (cs.take (T t).size)[j]? = some y → ((List.range (T t).size).map fn)[j]? = some (fn j) := by
            intro j y hy
            have hj : j < (T t).size := by
              rw [List.getElem?_take] at hy
              split at hy
              · assumption
              · simp at hy
            simp [hj]
          refine ⟨.agg ((List.range (T t).size).map fn).toArray, ?_, _, rfl, ?_⟩
          · have := (hr ((List.range (T t).size).map fn) (fun j u hu => ?_)).1 ha (by simp)
            · simp [execOp, ho, hxe, this]
            · simp only [List.getElem?_map, Option.map_eq_some_iff] at hu
              obtain ⟨k, hk, rfl⟩ := hu
              have hj : j < (T t).size := by
                rcases Nat.lt_or_ge j (T t).size with h' | h'
                · exact h'
                · rw [List.getElem?_eq_none (by simpa using h')] at hk; simp at hk
              simp [hj] at hk; subst hk
              obtain ⟨y, hy⟩ : ∃ y, cs[j]? = some y := ⟨cs[j]'(by omega), List.getElem?_eq_getElem (by omega)⟩
              exact Imm.cell_world g.imm (hcell _ _ hy)
          · refine All2.map (All2.of_get (by simp; omega) fun j y u hy hu => ?_)
            have := hvs j y hy
            rw [this] at hu; simp at hu; subst hu
            refine hden j y ?_
            rw [List.getElem?_take] at hy
            split at hy
            · exact hy
            · simp at hy
        · refine ⟨fn 0, ?_, hden 0 y hy⟩
          have := Imm.cell_world g.imm (hcell 0 y hy)
          simp only [Addr.add_zero'] at this
          simp [execOp, ho, hxe, Instr.loadAt, Instr.sureAddr, loadVar, ht.run_agg hkn, ha, this]
    · simp at h

theorem run_eqGuard_int (op : BinOp) (t : TypeId) (x y : Operand) (j k : IntKind) (m n : Int) : (eqGuard op t x y (.int j m) (.int k n)).run P W = .ok () W := by cases op <;> simp [eqGuard]
theorem run_eqGuard_str (op : BinOp) (t : TypeId) (x y : Operand) (m n : ByteArray) : (eqGuard op t x y (.string m) (.string n)).run P W = .ok () W := by cases op <;> simp [eqGuard]
theorem run_eqGuard_bool (op : BinOp) (t : TypeId) (x y : Operand) (m n : Bool) : (eqGuard op t x y (.bool m) (.bool n)).run P W = .ok () W := by cases op <;> simp [eqGuard]

theorem sameKind_eq {j k : IntKind} (h : sameKind j k = true) : j = k := by cases j <;> cases k <;> simp_all [sameKind]

theorem run_intOp {op : BinOp} {t : TypeId} {k : IntKind} {m n : Int} {d : D} (h : intOp op k m n = some d) :
    ∃ x, (binOp op t (.int k m) (.int k n)).run P W = .ok x W ∧ DenD P M d x := by
  cases op <;> simp only [intOp] at h <;> first | (cases h; done) | (simp only [Option.some.injEq] at h; subst h)
  case and | or | xor => exact ⟨_, by show (if k ≠ k then _ else _ : Sem Value).run P W = _; rw [if_neg (by simp)]; rfl, .int _ _⟩
  case add | sub | mul => exact ⟨_, by simp [binOp, Op.intArith], .int _ _⟩
  all_goals exact ⟨_, by simp [binOp, Op.intCmp], .bool _⟩

theorem run_constOp {op : BinOp} {t : TypeId} {k k2 : IntKind} {m n : Int} {y : Operand} {d : D} (h : constOp op k m y = some d) (hy : a.eval y = .int k2 n) :
    ∃ x, (binOp op t (.int k m) (.int k2 n)).run P W = .ok x W ∧ DenD P M d x := by
  unfold constOp at h
  split at h
  · rename_i k3 c
    simp only [Option.some.injEq] at h; subst h
    have : k3 = k2 ∧ (Int.ofNat c) = n := by have := hy; simp [Act.eval] at this; exact this
    obtain ⟨rfl, rfl⟩ := this
    refine ⟨_, ?_, .int _ _⟩
    show (Op.shift .shr k m k3 (Int.ofNat c)).run P W = _
    unfold Op.shift
    rw [if_neg (by simp)]
    rfl
  · rename_i k3 c
    simp only [Option.some.injEq] at h; subst h
    have : k3 = k2 ∧ (Int.ofNat c) = n := by have := hy; simp [Act.eval] at this; exact this
    obtain ⟨rfl, rfl⟩ := this
    refine ⟨_, ?_, .int _ _⟩
    show (Op.shift .shl k m k3 (Int.ofNat c)).run P W = _
    unfold Op.shift
    rw [if_neg (by simp)]
    rfl
  · rename_i k3 c
    cases hs : sameKind k k3 with
    | false => simp [hs] at h
    | true =>
      simp only [hs, cond_true, Option.some.injEq] at h; subst h
      obtain rfl := sameKind_eq hs
      have : k = k2 ∧ (Int.ofNat (c + 1)) = n := by have := hy; simp [Act.eval] at this; exact this
      obtain ⟨rfl, rfl⟩ := this
      refine ⟨_, ?_, .int _ _⟩
      show (if k ≠ k then _ else Op.intDiv .quo k m (Int.ofNat (c + 1)) : Sem Value).run P W = _
      rw [if_neg (by simp)]
      unfold Op.intDiv
      rw [if_neg (by simp; omega)]
      rfl
  · rename_i k3 c
    cases hs : sameKind k k3 with
    | false => simp [hs] at h
    | true =>
      simp only [hs, cond_true, Option.some.injEq] at h; subst h
      obtain rfl := sameKind_eq hs
      have : k = k2 ∧ (Int.ofNat (c + 1)) = n := by have := hy; simp [Act.eval] at this; exact this
      obtain ⟨rfl, rfl⟩ := this
      refine ⟨_, ?_, .int _ _⟩
      show (if k ≠ k then _ else Op.intDiv .rem k m (Int.ofNat (c + 1)) : Sem Value).run P W = _
      rw [if_neg (by simp)]
      unfold Op.intDiv
      rw [if_neg (by simp; omega)]
      rfl
  · simp at h

theorem run_strOp {op : BinOp} {t : TypeId} {m n : ByteArray} {d : D} (h : strOp op m n = some d) :
    ∃ x, (binOp op t (.string m) (.string n)).run P W = .ok x W ∧ DenD P M d x := by
  cases op <;> simp only [strOp, Option.some.injEq] at h <;> first | (cases h; done) | subst h
  all_goals exact ⟨_, by simp [binOp, Op.stringOp, beq_toListBytes], .bool _⟩

theorem yields_binOp (hT : TabOK P T) {op : BinOp} {t t' : Nat} {x y : Operand} (ho : o.op = .binOp op t x y t') (h : evP T s p (.binOp op t x y t') = some v) (g : Gam P X ρ M s a W) (hp : holds s.gv p) : Yields P ρ M a W o v := by
  simp only [evP] at h
  split at h
  · rename_i k k1 m k2 n hk hx hy
    have ex := den_int (ev_den hx g hp)
    have ey := den_int (ev_den hy g hp)
    split at h
    · rename_i d hc
      simp only [Option.some.injEq] at h; subst h
      obtain ⟨z, hz, hd⟩ := run_constOp (P := P) (M := M) (W := W) (t := t) hc ey
      exact ⟨z, by simp [execOp, ho, ex, ey, run_eqGuard_int, hz], hd⟩
    · rename_i hc
      cases hsk : sameKind k1 k2 with
      | false => simp [hsk] at h
      | true =>
        simp only [hsk, cond_true] at h
        obtain rfl := sameKind_eq hsk
        split at h
        · rename_i d hd
          simp only [Option.some.injEq] at h; subst h
          obtain ⟨z, hz, hd⟩ := run_intOp (P := P) (M := M) (W := W) (t := t) hd
          exact ⟨z, by simp [execOp, ho, ex, ey, run_eqGuard_int, hz], hd⟩
        · simp at h
  · rename_i m n hk hx hy
    have ex := den_str (ev_den hx g hp)
    have ey := den_str (ev_den hy g hp)
    split at h
    · rename_i d hd
      simp only [Option.some.injEq] at h; subst h
      obtain ⟨z, hz, hd⟩ := run_strOp (P := P) (M := M) (W := W) (t := t) hd
      exact ⟨z, by simp [execOp, ho, ex, ey, run_eqGuard_str, hz], hd⟩
    · simp at h
  · rename_i m n hk hx hy
    have ex := den_bool (ev_den hx g hp)
    have ey := den_bool (ev_den hy g hp)
    have hkd := (hT t (known_of hk rfl)).kd
    rw [hk] at hkd
    split at h <;> first | (cases h; done) | (simp only [Option.some.injEq] at h; subst h)
    · exact ⟨_, by simp [execOp, ho, ex, ey, run_eqGuard_bool, binOp, Op.equal, Op.maxDepth, run_equalIn_bool W _ t _ _ hkd], .bool _⟩
    · exact ⟨_, by simp [execOp, ho, ex, ey, run_eqGuard_bool, binOp, Op.equal, Op.maxDepth, run_equalIn_bool W _ t _ _ hkd], .bool _⟩
  · simp at h

theorem yields_unOp {op : UnOp} {t : Nat} {x : Operand} (ho : o.op = .unOp op t x) (h : evP T s p (.unOp op t x) = some v) (g : Gam P X ρ M s a W) (hp : holds s.gv p) : Yields P ρ M a W o v := by
  simp only [evP] at h
  split at h
  · rename_i b hx
    simp only [Option.some.injEq] at h; subst h
    have ex := den_bool (ev_den hx g hp)
    exact ⟨_, by simp [execOp, ho, ex, Op.unary], .bool _⟩
  · rename_i k n hx
    simp only [Option.some.injEq] at h; subst h
    have ex := den_int (ev_den hx g hp)
    exact ⟨_, by simp [execOp, ho, ex, Op.unary, Op.intArith], .int _ _⟩
  · simp at h

theorem yields_convert (hT : TabOK P T) {src dst : Nat} {x : Operand} (ho : o.op = .convert src dst x) (h : evP T s p (.convert src dst x) = some v) (g : Gam P X ρ M s a W) (hp : holds s.gv p) : Yields P ρ M a W o v := by
  simp only [evP] at h
  split at h
  · rename_i k' k k2 n hs hd hx
    simp only [Option.some.injEq] at h; subst h
    have ex := den_int (ev_den hx g hp)
    have h1 := (hT src (known_of hs rfl)).kd
    have h2 := (hT dst (known_of hd rfl)).kd
    rw [hs] at h1; rw [hd] at h2
    refine ⟨.int k (k.wrap n), ?_, .int _ _⟩
    simp [execOp, ho, ex, convert, run_underlying h1, run_underlying h2, Conv.intToInt]
  · rename_i n hs hd hx
    simp only [Option.some.injEq] at h; subst h
    have ex := den_str (ev_den hx g hp)
    have h1 := (hT src (known_of hs rfl)).kd
    have h2 := (hT dst (known_of hd rfl)).kd
    rw [hs] at h1; rw [hd] at h2
    refine ⟨.string n, ?_, .str _⟩
    simp [execOp, ho, ex, convert, run_underlying h1, run_underlying h2]
  · simp at h

theorem yields_extract {i : Nat} {x : Operand} (ho : o.op = .extract x i) (h : evP T s p (.extract x i) = some v) (g : Gam P X ρ M s a W) (hp : holds s.gv p) : Yields P ρ M a W o v := by
  simp only [evP] at h
  split at h
  · rename_i vs hx
    obtain ⟨ws, he, hall⟩ := ev_den hx g hp
    split at h
    · rename_i b hb
      simp only [Option.some.injEq] at h; subst h
      obtain ⟨z, hz, hd⟩ := All2.get hall hb
      refine ⟨z, ?_, hd⟩
      simp [execOp, ho, he, Instr.extract, hz]
    · simp at h
  · simp at h

theorem yields_nilCheck {x : Operand} (ho : o.op = .nilCheck x) (h : evP T s p (.nilCheck x) = some v) (g : Gam P X ρ M s a W) (hp : holds s.gv p) : Yields P ρ M a W o v := by
  simp only [evP] at h
  split at h <;> first | (simp at h; done) | skip
  · rename_i id off hx
    simp only [Option.some.injEq] at h; subst h
    have hd := ev_den hx g hp
    refine ⟨_, ?_, hd⟩
    obtain ⟨b, h1, h2⟩ := hd
    simp [execOp, ho, h2]
  · rename_i id i off sz hx
    simp only [Option.some.injEq] at h; subst h
    have hd := ev_den hx g hp
    refine ⟨_, ?_, hd⟩
    obtain ⟨b, n, c, h1, h2⟩ := hd
    simp [execOp, ho, h2]
  · rename_i cs hx
    simp only [Option.some.injEq] at h; subst h
    have hd := ev_den hx g hp
    generalize hxe : a.eval x = xv at hd
    refine ⟨xv, ?_, hd⟩
    change DenD P M (.eptr cs) xv at hd
    cases hd with
    | eptr _ ad fn hcell hden => simp [execOp, ho, hxe]
  · rename_i f c1 c2 hx
    simp only [Option.some.injEq] at h; subst h
    have hd := ev_den hx g hp
    generalize hxe : a.eval x = xv at hd
    refine ⟨xv, ?_, hd⟩
    change DenD P M (.fn f c1 c2) xv at hd
    cases hd with
    | fn => simp [execOp, ho, hxe]
  · rename_i f c1 c2 hx
    simp only [Option.some.injEq] at h; subst h
    have hd := ev_den hx g hp
    refine ⟨_, ?_, hd⟩
    obtain ⟨xs, ys, h1, _⟩ := hd
    simp [execOp, ho, h1]

theorem yields_len (hT : TabOK P T) {args : Array Operand} {ts : Array TypeId} (ho : o.op = .call { callee := .builtin .len, args := args, argTypes := ts }) (h : evP T s p (.call { callee := .builtin .len, args := args, argTypes := ts }) = some v) (g : Gam P X ρ M s a W) (hp : holds s.gv p) : Yields P ρ M a W o v := by
  simp only [evP] at h
  split at h
  · rename_i t x hts hargs
    obtain ⟨ts⟩ := ts
    obtain ⟨args⟩ := args
    simp at hts hargs
    subst hts hargs
    have fin : ∀ (n : Nat) (xv : Value), a.eval x = xv → (Builtin.len_ #[t] o.type #[xv]).run P W = .ok (goInt n) W → Yields P ρ M a W o (dl (.int .i64 (n : Int))) := by
      intro n xv he hr
      refine ⟨.int .i64 n, ?_, .int _ _⟩
      simp [execOp, ho, resolve, invoke, builtin, he, hr, goInt]
    split at h
    · rename_i b hk hx
      simp only [Option.some.injEq] at h; subst h
      have ex := den_str (ev_den hx g hp)
      have h1 := (hT t (known_of hk rfl)).kd
      rw [hk] at h1
      exact fin _ _ ex (by simp [Builtin.len_, run_underlying h1])
    · rename_i e t' es hk hx
      simp only [Option.some.injEq] at h; subst h
      have hd := ev_den hx g hp
      have h1 := (hT t (known_of hk rfl)).kd
      rw [hk] at h1
      generalize hxe : a.eval x = xv at hd
      change DenD P M (.seq t' es) xv at hd
      cases hd with
      | seq0 => exact fin _ _ hxe (by simp [Builtin.len_, run_underlying h1])
      | seq => exact fin _ _ hxe (by simp [Builtin.len_, run_underlying h1])
    · rename_i e hk hx
      simp only [Option.some.injEq] at h; subst h
      have hd := ev_den hx g hp
      have h1 := (hT t (known_of hk rfl)).kd
      rw [hk] at h1
      generalize hxe : a.eval x = xv at hd
      change DenD P M .nilsl xv at hd
      cases hd
      exact fin 0 _ hxe (by simp [Builtin.len_, run_underlying h1])
    · rename_i e id hk hx
      obtain ⟨hr, A, n, c, he⟩ := ev_den hx g hp
      have h1 := (hT t (known_of hk rfl)).kd
      rw [hk] at h1
      split at h
      · rename_i t' es hl
        simp only [Option.some.injEq] at h; subst h
        obtain ⟨u, xs, hu, how, _⟩ := g.own _ _ (look_mem hl)
        rw [hr] at hu; simp at hu; subst hu
        have hn : n = es.length := by
          rcases how.2 with ⟨h2, h3⟩ | ⟨b, cap, cur, h2, _⟩
          · rw [he] at h2; simp at h2; omega
          · rw [he] at h2; simp at h2; omega
        exact fin _ _ he (by simp [Builtin.len_, run_underlying h1, hn])
      · simp at h
    · simp at h
  · simp at h

/-! Laying parts into cells. -/
def splice {α : Type} (off : Nat) (new cs : List α) : List α := cs.take off ++ (new ++ cs.drop (off + new.length))

theorem splice_nil {α : Type} (off : Nat) (cs : List α) : splice off [] cs = cs := by simp [splice]
theorem splice_length {α : Type} {off : Nat} {new cs : List α} (h : off + new.length ≤ cs.length) : (splice off new cs).length = cs.length := by
  simp [splice]; omega
theorem splice_succ {α : Type} (off : Nat) (new : List α) (c : α) (cs : List α) : splice (off + 1) new (c :: cs) = c :: splice off new cs := by
  simp [splice, Nat.add_right_comm off 1]
theorem splice_zero {α : Type} (x c : α) (new cs : List α) : splice 0 (x :: new) (c :: cs) = x :: splice 0 new cs := by
  simp [splice]
theorem All2.splice {α β : Type} {R : α → β → Prop} {new cs : List α} {news vs : List β} (off : Nat) (h : All2 R new news) (h' : All2 R cs vs) : All2 R (splice off new cs) (splice off news vs) := by
  unfold Cel.splice
  rw [All2.length h]
  exact All2.append (All2.take _ h') (All2.append h (All2.drop _ h'))

theorem writeGo_some {β : Type} {k : List L → Option β} {y : β} : ∀ {cs : List L} {off : Nat} {new acc : List L}, writeGo off new cs acc k = some y →
    (off + new.length ≤ cs.length ∨ new = []) ∧ k (acc.reverse ++ splice off new cs) = some y := by
  intro cs
  induction cs with
  | nil =>
    intro off new acc h
    cases new with
    | nil => simp [writeGo, revGo_eq] at h; exact ⟨.inr rfl, by simpa [splice_nil] using h⟩
    | cons x new => cases off <;> simp [writeGo] at h
  | cons c cs ih =>
    intro off new acc h
    cases new with
    | nil => simp [writeGo, revGo_eq] at h; exact ⟨.inr rfl, by simpa [splice_nil] using h⟩
    | cons x new =>
      cases off with
      | zero =>
        simp only [writeGo] at h
        obtain ⟨h1, h2⟩ := ih h
        refine ⟨.inl ?_, ?_⟩
        · rcases h1 with h1 | rfl
          · simp at h1 ⊢; omega
          · simp
        · rw [splice_zero]; simpa using h2
      | succ off =>
        simp only [writeGo] at h
        obtain ⟨h1, h2⟩ := ih h
        refine ⟨.inl ?_, ?_⟩
        · rcases h1 with h1 | h1
          · simp at h1 ⊢; omega
          · cases h1
        · rw [splice_succ]; simpa using h2

theorem foldl_splice (off : Nat) : ∀ (l : List Value) (n : Nat) (arr : Array Value), off + n + l.length ≤ arr.size →
    ((l.zipIdx n).foldl (fun cs (x : Value × Nat) => cs.setIfInBounds (off + x.2) x.1) arr).toList = splice (off + n) l arr.toList
  | [], n, arr, h => by simp [splice_nil]
  | x :: l, n, arr, h => by
    simp only [List.zipIdx_cons, List.foldl_cons]
    have hs : off + (n + 1) + l.length ≤ (arr.setIfInBounds (off + n) x).size := by simp at h ⊢; omega
    rw [foldl_splice off l (n + 1) _ hs]
    have hlt : off + n < arr.toList.length := by simp at h ⊢; omega
    unfold splice
    rw [Array.toList_setIfInBounds]
    have e1 : (arr.toList.set (off + n) x).take (off + (n + 1)) = arr.toList.take (off + n) ++ [x] := by
      rw [← Nat.add_assoc, List.take_succ_eq_append_getElem (by simpa using hlt)]
      simp [List.take_set_of_le]
    have e2 : (arr.toList.set (off + n) x).drop (off + (n + 1) + l.length) = arr.toList.drop (off + n + (x :: l).length) := by
      rw [List.drop_set_of_lt (by omega)]
      simp [Nat.add_assoc, Nat.add_comm 1]
    rw [e1, e2]
    simp

theorem lenL_eq {α : Type} : ∀ {l : List α} {n : Nat}, lenL l n = true → l.length = n
  | [], 0, _ => rfl
  | _ :: r, n + 1, h => by simp [lenL_eq (l := r) (n := n) (by simpa [lenL] using h)]
  | [], _ + 1, h => by simp [lenL] at h
  | _ :: _, 0, h => by simp [lenL] at h

theorem cellsA_den {u : A} {l : List L} {x : Value} (h : cellsA u = some l) (hd : DenA P ρ M u x) : All2 (DenL P ρ M) l x.cells.toList := by
  cases u with
  | tup _ => simp [cellsA] at h
  | undef => simp [cellsA] at h
  | b u =>
    cases u with
    | l y =>
      simp [cellsA] at h; subst h
      have hx : x.cells = #[x] := by
        have := DenL.one (show DenL P ρ M y x from hd)
        cases x <;> first | rfl | simp [Value.oneCell'] at this
      rw [hx]
      exact ⟨hd, trivial⟩
    | agg cs =>
      simp [cellsA] at h; subst h
      obtain ⟨vs, rfl, h2⟩ := hd
      simpa [Value.cells] using h2

theorem All2_d : ∀ {zs : List D} {vs : List Value}, All2 (DenD P M) zs vs → All2 (DenL P ρ M) (zs.map L.d) vs
  | [], [], _ => trivial
  | _ :: _, _ :: _, h => ⟨h.1, All2_d h.2⟩
  | [], _ :: _, h => h.elim
  | _ :: _, [], h => h.elim

theorem zeroGo_eq {β : Type} {k : List L → Option β} : ∀ (l : List D) (acc : List L), zeroGo l acc k = k (acc.reverse ++ l.map L.d)
  | [], acc => by simp [zeroGo, revGo_eq]
  | x :: r, acc => by simp [zeroGo, zeroGo_eq r]

/-- 'build', part by part. -/
theorem buildGo_some (hT : TabOK P T) (g : Gam P X ρ M s a W) (hp : holds s.gv p) {fs : List (Nat × Nat)} {fields : Array Field} (hm : fields.toList.map (fun f => (f.offset, f.type)) = fs) (hs : ∀ f ∈ fields.toList, P.cellsOf f.type ≠ 0 ∧ ∃ i, P.info? f.type = some i) (places : Array (Nat × Nat)) (hpl : places.toList = fields.toList.map (fun f => (f.offset, P.cellsOf f.type))) :
    ∀ {parts : List (Nat × Operand)} {cs : List L} {v : A} (arr : Array Value), buildGo T fs s p (fun cs => some (.b (.agg cs))) parts cs = some v → All2 (DenL P ρ M) cs arr.toList →
      ∃ arr', Instr.fill (places[·]?) arr (parts.map fun (i, x) => (i, a.eval x)) = some arr' ∧ DenA P ρ M v (.agg arr')
  | [], cs, v, arr, h, hc => by
    simp [buildGo] at h; subst h
    exact ⟨arr, by simp [Instr.fill], arr.toList, by simp, hc⟩
  | (i, x) :: r, cs, v, arr, h, hc => by
    simp only [buildGo] at h
    split at h
    · rename_i off ft u hf hx
      split at h
      · rename_i new hnew
        cases hkl : (T ft).kd.known && lenL new (T ft).size with
        | false => simp [hkl] at h
        | true =>
          simp only [hkl, cond_true] at h
          simp only [Bool.and_eq_true] at hkl
          obtain ⟨hkn, hl⟩ := hkl
          obtain ⟨hb, h2⟩ := writeGo_some h
          have hn := cellsA_den hnew (ev_den hx g hp)
          have hln := lenL_eq hl
          have hfe : ∃ fd, fields[i]? = some fd ∧ fd.offset = off ∧ fd.type = ft := by
            rw [← hm] at hf
            simp only [List.getElem?_map, Array.getElem?_toList, Option.map_eq_some_iff] at hf
            obtain ⟨y, h1, h2⟩ := hf
            simp at h2
            exact ⟨y, h1, h2⟩
          obtain ⟨fd, hfd, rfl, rfl⟩ := hfe
          have hmem : fd ∈ fields.toList := List.mem_of_getElem? ((Array.getElem?_toList (xs := fields) (i := i)).trans hfd)
          have hpi : places[i]? = some (fd.offset, P.cellsOf fd.type) := by
            rw [← Array.getElem?_toList, hpl]
            simp [hfd]
          have hsz : (a.eval x).cells.size = new.length := by
            have := All2.length hn; simpa using this.symm
          have hft := (hT _ hkn).size
          have hca := All2.length hc
          have hfold := foldl_splice fd.offset (a.eval x).cells.toList 0 arr (by
            rcases hb with hb | rfl
            · simp at hca ⊢; omega
            · exact absurd (by simpa [hft] using hln.symm) (hs _ hmem).1)
          have hfit : ¬ ((a.eval x).cells.size ≠ P.cellsOf fd.type ∨ fd.offset + (a.eval x).cells.size > arr.size) := by
            rcases hb with hb | rfl
            · simp at hca ⊢; omega
            · exact absurd (by simpa [hft] using hln.symm) (hs _ hmem).1
          obtain ⟨arr', h3, h4⟩ := buildGo_some hT g hp hm hs places hpl ((a.eval x).cells.zipIdx.foldl (fun cs (c, j) => cs.setIfInBounds (fd.offset + j) c) arr) (by simpa using h2) (by
            have e : ((a.eval x).cells.zipIdx.foldl (fun cs (x : Value × Nat) => cs.setIfInBounds (fd.offset + x.2) x.1) arr).toList = splice fd.offset (a.eval x).cells.toList arr.toList := by
              rw [← Array.foldl_toList, Array.toList_zipIdx]
              simpa using hfold
            show All2 _ _ (((a.eval x).cells.zipIdx.foldl (fun cs (x : Value × Nat) => cs.setIfInBounds (fd.offset + x.2) x.1) arr).toList)
            rw [e]
            simpa using All2.splice fd.offset hn hc)
          refine ⟨arr', ?_, h4⟩
          simp only [List.map_cons, Instr.fill, hpi]
          rw [if_neg (by simpa using hfit)]
          exact h3
      · simp at h
    · simp at h

theorem yields_build (hT : TabOK P T) {t : Nat} {parts : Array (Nat × Operand)} (ho : o.op = .build t parts) (h : evP T s p (.build t parts) = some v) (g : Gam P X ρ M s a W) (hp : holds s.gv p) : Yields P ρ M a W o v := by
  simp only [evP] at h
  split at h
  · rename_i fs hk
    have ht := hT t (known_of hk rfl)
    have hkd := ht.kd
    rw [hk] at hkd
    obtain ⟨fields, hu, hm, hs⟩ := hkd
    obtain ⟨i, z, hi, _, _, hz, hzd⟩ := ht.info
    rw [zeroGo_eq] at h
    have hpo : ∀ l : List Field, (∀ f ∈ l, P.cellsOf f.type ≠ 0 ∧ ∃ i, P.info? f.type = some i) → l.mapM (fun f => (P.info? f.type).map fun i => (f.offset, i.size)) = some (l.map fun f => (f.offset, P.cellsOf f.type)) := by
      intro l
      induction l with
      | nil => intro _; rfl
      | cons f l ih =>
        intro hl
        obtain ⟨_, j, hj⟩ := hl f List.mem_cons_self
        have := ih fun f' hf' => hl f' (List.mem_cons_of_mem _ hf')
        simp [List.mapM_cons, hj, this, Program.cellsOf]
    obtain ⟨arr', h1, h2⟩ := buildGo_some hT g hp hm hs (fields.map fun f => (f.offset, P.cellsOf f.type)) (by simp) z.cells h (by simpa using All2_d (hzd M))
    refine ⟨.agg arr', ?_, h2⟩
    have h1' : Instr.fill (((fields.toList.map fun f => (f.offset, P.cellsOf f.type)).toArray)[·]?) z.cells (parts.toList.map fun (i, x) => (i, a.eval x)) = some arr' := by
      simpa using h1
    have hb : P.built t (parts.map fun (i, x) => (i, a.eval x)).toList = some arr' := by
      unfold Program.built
      simp only [hi, hu, hz, hpo fields.toList hs]
      simpa using h1'
    have := run_build W t (parts.map fun (i, x) => (i, a.eval x)) arr' hb
    simp [execOp, ho, this]
  · simp at h

theorem evP_yields (hT : TabOK P T) (h : evP T s p o.op = some v) (g : Gam P X ρ M s a W) (hp : holds s.gv p) : Yields P ρ M a W o v := by
  generalize ho : o.op = op at h
  cases op with
  | move x => exact yields_move (.inl ho) (by simpa [evP] using h) g hp
  | assign x => exact yields_move (.inr ho) (by simpa [evP] using h) g hp
  | pick c x y => cases c with
    | tmp c => exact yields_pick ho h g hp
    | _ => simp [evP] at h
  | fieldAddr t x f => exact yields_fieldAddr hT ho h g hp
  | field t x f => exact yields_field hT ho h g hp
  | load t x => exact yields_load hT ho h g hp
  | binOp op t x y t' => exact yields_binOp hT ho h g hp
  | unOp op t x => exact yields_unOp ho h g hp
  | convert t t' x => exact yields_convert hT ho h g hp
  | extract x i => exact yields_extract ho h g hp
  | nilCheck x => exact yields_nilCheck ho h g hp
  | build t parts => exact yields_build hT ho h g hp
  | call c =>
    obtain ⟨callee, args, ts⟩ := c
    cases callee with
    | builtin b => cases b with
      | len => exact yields_len hT ho h g hp
      | _ => simp [evP] at h
    | _ => simp [evP] at h
  | _ => simp [evP] at h

end Go.Cel

set_option linter.unusedVariables false
set_option linter.unusedSimpArgs false
namespace Go.Cel
variable {P : Program} {T : Nat → Ty} {X : CtxD} {ρ : Rho} {M : Imm} {s s' : St} {a : Act} {W : World} {p : Path} {o : Oper} {v : A}

theorem look_append_none {α : Type} {d k : Nat} {x : α} {g : List (Nat × α)} (hd : look d g = none) (h : look k g ≠ none) : look k ((d, x) :: g) = look k g := by
  rw [look_cons]
  by_cases e : d = k
  · subst e; exact absurd hd h
  · simp [e]

theorem holds_cons {gv : List (Nat × Path × Bool)} {d : Nat} {y : Path × Bool} {q : Path} (hd : look d gv = none) (hq : ∀ t b, (t, b) ∈ q → look t gv ≠ none) : holds ((d, y) :: gv) q ↔ holds gv q := by
  constructor
  · intro h t b hm
    obtain ⟨r, x, h1, h2⟩ := h t b hm
    rw [look_append_none hd (hq t b hm)] at h1
    exact ⟨r, x, h1, h2⟩
  · intro h t b hm
    obtain ⟨r, x, h1, h2⟩ := h t b hm
    exact ⟨r, x, by rw [look_append_none hd (hq t b hm)]; exact h1, h2⟩

theorem put_get {d k : Nat} {x : Value} (h : d < a.tmps.size) : (a.put (some d) x).tmps[k]? = if d = k then some x else a.tmps[k]? := by
  simp only [Act.put]
  rw [Array.getElem?_setIfInBounds]
  by_cases e : d = k
  · subst e; simp [h]
  · simp [e]

theorem blt_lt {m n : Nat} (h : Nat.blt m n = true) : m < n := by
  have : Nat.ble (m + 1) n = true := h
  exact Nat.le_of_ble_eq_true this

theorem Gam.putS (g : Gam P X ρ M s a W) {d : Option Nat} (h : put s d p v = some s') {x : Value} (hx : (holds s.gv p → DenA P ρ M v x) ∧ (¬ holds s.gv p → x = Go.undef)) (hp : ∀ t b, (t, b) ∈ p → look t s.gv ≠ none) :
    Gam P X ρ M s' (a.put d x) W := by
  obtain ⟨R, O, n, gv, m, z⟩ := s
  cases d with
  | none => simp [put] at h; subst h; exact g
  | some d =>
    simp only [put] at h
    cases hl : look d gv with
    | some _ => simp [hl] at h
    | none =>
      simp only [hl] at h
      cases hb : Nat.blt d z with
      | false => simp [hb] at h
      | true =>
        simp only [hb, cond_true, Option.some.injEq] at h; subst h
        have hlt : d < a.tmps.size := by have := g.sz; simp at this; have := blt_lt hb; omega
        refine ⟨g.toMem, ?_, ?_, ?_, g.wfg, g.asm, g.defers, ?_⟩
        · intro k q u hk
          simp only [look_cons] at hk
          rw [put_get hlt]
          by_cases e : d = k
          · simp [e] at hk ⊢
            obtain ⟨rfl, rfl⟩ := hk
            exact hx
          · simp [e] at hk ⊢
            exact g.regs k q u hk
        · intro k q u hm
          rcases List.mem_cons.1 hm with e | hm
          · cases e; exact hp
          · exact g.wfr k q u hm
        · intro k q u hk
          rw [put_get hlt]
          by_cases e : d = k
          · subst e; simp [hl] at hk
          · simp only [e, if_false]; exact g.gv k q u hk
        · simpa [Act.put] using g.sz

theorem Gam.putGS (g : Gam P X ρ M s a W) {d : Option Nat} {y : Bool} (h : putG s d p y = some s') {x : Value} (hx : (holds s.gv p → x = .bool y) ∧ (¬ holds s.gv p → x = Go.undef)) (hp : ∀ t b, (t, b) ∈ p → look t s.gv ≠ none) :
    Gam P X ρ M s' (a.put d x) W := by
  obtain ⟨R, O, n, gv, m, z⟩ := s
  cases d with
  | none => simp [putG] at h; subst h; exact g
  | some d =>
    simp only [putG] at h
    cases hl : look d gv with
    | some _ => simp [hl] at h
    | none =>
      simp only [hl] at h
      cases hb : Nat.blt d z with
      | false => simp [hb] at h
      | true =>
        simp only [hb, cond_true, Option.some.injEq] at h; subst h
        have hlt : d < a.tmps.size := by have := g.sz; simp at this; have := blt_lt hb; omega
        have hasm : ∀ t b, (t, b) ∈ m → look t gv ≠ none := fun t b hm => by obtain ⟨q, x, h1, _⟩ := g.asm t b hm; simp at h1; simp [h1]
        refine ⟨g.toMem, ?_, ?_, ?_, ?_, ?_, g.defers, ?_⟩
        · intro k q u hk
          simp only [look_cons] at hk
          rw [put_get hlt]
          by_cases e : d = k
          · simp [e] at hk ⊢
            obtain ⟨rfl, rfl⟩ := hk
            subst e
            rw [holds_cons hl hp]
            exact ⟨fun hh => by rw [hx.1 hh]; exact .bool y, hx.2⟩
          · simp [e] at hk ⊢
            obtain ⟨w, h1, h2⟩ := g.regs k q u hk
            exact ⟨w, h1, by rw [holds_cons hl (g.wfr k q u (look_mem hk))]; exact h2⟩
        · intro k q u hm t b htb
          have : look t gv ≠ none := by
            rcases List.mem_cons.1 hm with e | hm
            · cases e; exact hp t b htb
            · exact g.wfr k q u hm t b htb
          rw [look_append_none hl this]; exact this
        · intro k q u hk
          simp only [look_cons] at hk
          rw [put_get hlt]
          by_cases e : d = k
          · simp [e] at hk ⊢
            obtain ⟨rfl, rfl⟩ := hk
            subst e
            rw [holds_cons hl hp]
            exact hx
          · simp [e] at hk ⊢
            obtain ⟨w, h1, h2⟩ := g.gv k q u hk
            exact ⟨w, h1, by rw [holds_cons hl (g.wfg k q u (look_mem hk))]; exact h2⟩
        · intro k q u hm t b htb
          have : look t gv ≠ none := by
            rcases List.mem_cons.1 hm with e | hm
            · cases e; exact hp t b htb
            · exact g.wfg k q u hm t b htb
          rw [look_append_none hl this]; exact this
        · exact (holds_cons hl hasm).2 g.asm
        · simpa [Act.put] using g.sz

theorem Gam.putVS (g : Gam P X ρ M s a W) (h : putV s o p v = some s') {x : Value} (hx : (holds s.gv p → DenA P ρ M v x) ∧ (¬ holds s.gv p → x = Go.undef)) (hp : ∀ t b, (t, b) ∈ p → look t s.gv ≠ none) :
    Gam P X ρ M s' (a.put o.dst x) W := by
  unfold putV at h
  split at h
  · exact g.putGS h ⟨fun hh => den_bool (hx.1 hh), hx.2⟩ hp
  · exact g.putS h hx hp

/-- A new block. -/
def Rho.add (ρ : Rho) (n : Nat) (v : Value) : Rho := fun i => if i = n then some v else ρ i
theorem Rho.le_add {n : Nat} {v : Value} (h : ρ n = none) : ρ.le (ρ.add n v) := fun i u hi => by
  unfold Rho.add
  by_cases e : i = n
  · subst e; rw [h] at hi; cases hi
  · simp [e, hi]

theorem BlkOK.keep {W W' : World} {ρ' : Rho} {M' : Imm} {id : Nat} {b : Blk} (h : BlkOK P ρ M W id b) (hr : ρ.le ρ') (hM : M.le M') (hk : ∀ v g, ρ id = some v → gOf v = some g → W'.heap[g]? = W.heap[g]?) : BlkOK P ρ' M' W' id b := by
  cases b with
  | cells cs t =>
    obtain ⟨g, vs, h1, h2, h3⟩ := h
    exact ⟨g, vs, hr _ _ h1, (hk _ _ h1 rfl).trans h2, All2.imp (fun _ _ q => DenL.mono hr hM q) h3⟩
  | row t es =>
    obtain ⟨v, xs, h1, h2, h3, h4⟩ := h
    refine ⟨v, xs, hr _ _ h1, ⟨h2.1, ?_⟩, ⟨h3.1, fun i cs hi => ⟨(h3.2 i cs hi).1, fun j x hj => ?_⟩⟩, h4⟩
    · rcases h2.2 with h5 | ⟨g, cap, cur, rfl, h6, h7, h8⟩
      · exact .inl h5
      · exact .inr ⟨g, cap, cur, rfl, h6, (hk _ _ h1 rfl).trans h7, h8⟩
    · obtain ⟨u, h5, h6⟩ := (h3.2 i cs hi).2 j x hj
      exact ⟨u, h5, DenD.mono hM h6⟩
  | spread t es =>
    rcases h with ⟨h1, h2⟩ | ⟨g, n, cur, h1, h2, h4, h5, h6⟩
    · exact .inl ⟨hr _ _ h1, h2⟩
    refine .inr ⟨g, n, cur, hr _ _ h1, (hk _ _ h1 rfl).trans h2, h4, h5, fun i cs hi => ⟨(h6 i cs hi).1, fun j x hj => ?_⟩⟩
    obtain ⟨u, q5, q6⟩ := (h6 i cs hi).2 j x hj
    exact ⟨u, q5, DenD.mono hM q6⟩
  | rowp t es n ls =>
    obtain ⟨v, xs, h1, h2, h3, h4⟩ := h
    refine ⟨v, xs, hr _ _ h1, ⟨h2.1, ?_⟩, ⟨h3.1, h3.2.1, h3.2.2.1, fun i cs hne hi => ⟨(h3.2.2.2.1 i cs hne hi).1, fun j x hj => ?_⟩, All2.imp (fun _ _ q => DenL.mono hr hM q) h3.2.2.2.2⟩, h4⟩
    · rcases h2.2 with h5 | ⟨g, cap, cur, rfl, h6, h7, h8⟩
      · exact .inl h5
      · exact .inr ⟨g, cap, cur, rfl, h6, (hk _ _ h1 rfl).trans h7, h8⟩
    · obtain ⟨u, h5, h6⟩ := (h3.2.2.2.1 i cs hne hi).2 j x hj
      exact ⟨u, h5, DenD.mono hM h6⟩
  | map t m =>
    obtain ⟨g, es, clock, h1, h2, h3⟩ := h
    exact ⟨g, es, clock, hr _ _ h1, (hk _ _ h1 rfl).trans h2, All2.imp (fun _ _ q => ⟨DenB.mono (Rho.le.refl _) hM q.1, DenB.mono (Rho.le.refl _) hM q.2⟩) h3⟩

theorem BlkOK.lt {W : World} {id : Nat} {b : Blk} (h : BlkOK P ρ M W id b) {v : Value} {g : Nat} (hv : ρ id = some v) (hg : gOf v = some g) : g < W.heap.size := by
  cases b with
  | cells cs t =>
    obtain ⟨g', vs, h1, h2, h3⟩ := h
    rw [h1] at hv; cases hv
    simp [gOf] at hg; subst hg
    exact (Array.getElem?_eq_some_iff.1 h2).1
  | row t es =>
    obtain ⟨v', xs, h1, h2, h3, h4⟩ := h
    rw [h1] at hv; cases hv
    rcases h2.2 with ⟨rfl, _⟩ | ⟨g', cap, cur, rfl, _, h7, _⟩
    · simp [gOf] at hg
    · simp [gOf] at hg; subst hg
      exact (Array.getElem?_eq_some_iff.1 h7).1
  | spread t es =>
    rcases h with ⟨h1, h2⟩ | ⟨g', n, cur, h1, h2, _⟩
    · rw [h1] at hv; cases hv; simp [gOf] at hg
    rw [h1] at hv; cases hv
    simp [gOf] at hg; subst hg
    exact (Array.getElem?_eq_some_iff.1 h2).1
  | rowp t es n ls =>
    obtain ⟨v', xs, h1, h2, h3, h4⟩ := h
    rw [h1] at hv; cases hv
    rcases h2.2 with ⟨rfl, _⟩ | ⟨g', cap, cur, rfl, _, h7, _⟩
    · simp [gOf] at hg
    · simp [gOf] at hg; subst hg
      exact (Array.getElem?_eq_some_iff.1 h7).1
  | map t m =>
    obtain ⟨g', es, clock, h1, h2, h3⟩ := h
    rw [h1] at hv; cases hv
    simp [gOf] at hg; subst hg
    exact (Array.getElem?_eq_some_iff.1 h2).1

theorem BlkOK.rho {id : Nat} {b : Blk} (h : BlkOK P ρ M W id b) : ρ id ≠ none := by
  cases b with
  | cells => obtain ⟨_, _, h1, _⟩ := h; simp [h1]
  | row => obtain ⟨_, _, h1, _⟩ := h; simp [h1]
  | spread => rcases h with ⟨h1, _⟩ | ⟨_, _, _, h1, _⟩ <;> simp [h1]
  | rowp => obtain ⟨_, _, h1, _⟩ := h; simp [h1]
  | map => obtain ⟨_, _, _, h1, _⟩ := h; simp [h1]

theorem gOf_none_imm (g : Gam P X ρ M s a W) : M W.heap.size = none := by
  cases h : M W.heap.size with
  | none => rfl
  | some o => have := g.imm _ _ h; simp at this

/-- One block more in the world, of one's own. -/
theorem Gam.newBlk (g : Gam P X ρ M s a W) {ob : Obj} {hv : Value} (hg : gOf hv = some W.heap.size) {b : Blk} {W' : World} (hW : W' = { W with heap := W.heap.push ob }) (hb : BlkOK P (ρ.add s.nx hv) M W' s.nx b) {O : List (Nat × Blk)} (hO : O = (s.nx, b) :: s.own) :
    Gam P X (ρ.add s.nx hv) M { s with own := O, nx := s.nx + 1 } a W' := by
  subst hW hO
  have hfr := g.fresh s.nx (Nat.le_refl _)
  have hle := Rho.le_add (v := hv) hfr
  have hold : ∀ k, k < W.heap.size → (W.heap.push ob)[k]? = W.heap[k]? := fun k hk => by rw [Array.getElem?_push, if_neg (Nat.ne_of_lt hk)]
  have hrho : ∀ id b, (id, b) ∈ s.own → (ρ.add s.nx hv) id = ρ id := fun id b hm => by
    unfold Rho.add
    by_cases e : id = s.nx
    · subst e
      exact ((g.own _ _ hm).rho hfr).elim
    · simp [e]
  have hnew : (ρ.add s.nx hv) s.nx = some hv := by simp [Rho.add]
  refine ⟨⟨g.os, g.tape, g.output, ?_, ?_, ?_, g.mono, g.newM, g.rle.trans hle, Nat.le_trans g.nle (Nat.le_succ _), g.rfr, ?_, ?_, ?_, ?_⟩, ?_, g.wfr, g.gv, g.wfg, g.asm, g.defers, g.sz⟩
  · have := g.size; simp; omega
  · intro k hk hK
    rw [hold k (Nat.lt_of_lt_of_le hk g.size)]
    exact g.old k hk hK
  · intro k ob' hk
    have := g.imm k ob' hk
    rw [hold k (Array.getElem?_eq_some_iff.1 this).1]
    exact this
  · intro id hid
    simp only at hid
    unfold Rho.add
    rw [if_neg (by omega)]
    exact g.fresh id (by omega)
  · intro id b' hm
    rcases List.mem_cons.1 hm with e | hm
    · cases e; exact hb
    · refine (g.own id b' hm).keep hle (Imm.le.refl _) fun u k hu hk => ?_
      exact hold k ((g.own id b' hm).lt hu hk)
  · intro id b' u k hm hu hk
    rcases List.mem_cons.1 hm with e | hm
    · cases e
      rw [hnew] at hu; cases hu
      rw [hg] at hk; cases hk
      exact ⟨gOf_none_imm g, .inr g.size⟩
    · rw [hrho id b' hm] at hu
      exact g.mine id b' u k hm hu hk
  · intro id b1 id' b2 u u' k hm hm' hu hu' hk hk'
    rcases List.mem_cons.1 hm with e | hm <;> rcases List.mem_cons.1 hm' with e' | hm'
    · cases e; cases e'; exact ⟨rfl, rfl⟩
    · cases e
      rw [hnew] at hu; cases hu
      rw [hg] at hk; cases hk
      rw [hrho id' b2 hm'] at hu'
      exact absurd ((g.own id' b2 hm').lt hu' hk') (Nat.lt_irrefl _)
    · cases e'
      rw [hnew] at hu'; cases hu'
      rw [hg] at hk'; cases hk'
      rw [hrho id b1 hm] at hu
      exact absurd ((g.own id b1 hm).lt hu hk) (Nat.lt_irrefl _)
    · rw [hrho id b1 hm] at hu
      rw [hrho id' b2 hm'] at hu'
      exact g.dist id b1 id' b2 u u' k hm hm' hu hu' hk hk'
  · intro k q u hk
    obtain ⟨x, h1, h2, h3⟩ := g.regs k q u hk
    exact ⟨x, h1, fun hh => DenA.mono hle (Imm.le.refl _) (h2 hh), h3⟩

/-- A block of one's own is turned. -/
theorem Gam.turn (g : Gam P X ρ M s a W) {id : Nat} {b b' : Blk} (hm : (id, b) ∈ s.own) {k : Nat} {u : Value} (hu : ρ id = some u) (hk : gOf u = some k) {W' : World} (hos : W'.os = W.os) (htp : W'.tape = W.tape) (hout : W'.output = W.output) (hsz : W'.heap.size = W.heap.size) (hoth : ∀ j, j ≠ k → W'.heap[j]? = W.heap[j]?)
    (hb : BlkOK P ρ M W' id b') {O : List (Nat × Blk)} (hO : ∀ i c, (i, c) ∈ O → (i = id ∧ c = b') ∨ (i ≠ id ∧ (i, c) ∈ s.own)) : Gam P X ρ M { s with own := O } a W' := by
  have hmine := g.mine id b u k hm hu hk
  have hne : ∀ i c, (i, c) ∈ s.own → i ≠ id → ∀ v' j, ρ i = some v' → gOf v' = some j → j ≠ k := fun i c hic hi v' j hv hj e => by
    subst e
    exact hi (g.dist i c id b v' u j hic hm hv hu hj hk).1
  refine ⟨⟨hos.trans g.os, htp.trans g.tape, hout.trans g.output, by rw [hsz]; exact g.size, ?_, ?_, g.mono, g.newM, g.rle, g.nle, g.rfr, g.fresh, ?_, ?_, ?_⟩, g.regs, g.wfr, g.gv, g.wfg, g.asm, g.defers, g.sz⟩
  · intro j hj hK
    rw [hoth j ?_]
    · exact g.old j hj hK
    · intro e; subst e
      rcases hmine.2 with h | h
      · exact hK h
      · omega
  · intro j o' hj
    rw [hoth j ?_]
    · exact g.imm j o' hj
    · intro e; subst e
      rw [hmine.1] at hj; cases hj
  · intro i c hic
    rcases hO i c hic with ⟨rfl, rfl⟩ | ⟨hi, hic⟩
    · exact hb
    · exact (g.own i c hic).keep (Rho.le.refl _) (Imm.le.refl _) fun v' j hv hj => hoth j (hne i c hic hi v' j hv hj)
  · intro i c v' j hic hv hj
    rcases hO i c hic with ⟨rfl, rfl⟩ | ⟨hi, hic⟩
    · rw [hu] at hv; cases hv
      rw [hk] at hj; cases hj
      exact hmine
    · exact g.mine i c v' j hic hv hj
  · intro i c i' c' v1 v2 j hic hic' hv hv' hj hj'
    rcases hO i c hic with ⟨rfl, rfl⟩ | ⟨hi, hic⟩ <;> rcases hO i' c' hic' with ⟨rfl, rfl⟩ | ⟨hi', hic'⟩
    · exact ⟨rfl, rfl⟩
    · exfalso; rw [hu] at hv; cases hv; rw [hk] at hj; cases hj; exact hne i' c' hic' hi' v2 _ hv' hj' rfl
    · exfalso; rw [hu] at hv'; cases hv'; rw [hk] at hj'; cases hj'; exact hne i c hic hi v1 _ hv hj rfl
    · exact g.dist i c i' c' v1 v2 j hic hic' hv hv' hj hj'

end Go.Cel
