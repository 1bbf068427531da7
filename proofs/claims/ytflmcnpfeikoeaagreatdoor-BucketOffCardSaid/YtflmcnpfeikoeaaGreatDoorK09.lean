/- CelZc: append where the types' names differ; a slice of a row that is not looked at. -/
import Derived.Test.YtflmcnpfeikoeaaGreatDoorK08
import Derived.Defers
import Derived.Test.YtflmcnpfeikoeaaGreatDoorK00
set_option linter.unusedVariables false
set_option linter.unusedSimpArgs false
namespace Go.Cel
variable {P : Program} {T : Nat → Ty} {X : CtxD} {ρ : Rho} {M : Imm} {r s s' : St} {a : Act} {W : World} {p : Path} {o : Oper} {v : A}

theorem wp_congr {o o' : Oper} (hd : o.dst = o'.dst) (h : ∀ (a : Act) W, (execOp a.eval o).run P W = (execOp a.eval o').run P W) (a : Act) (W : World) (K : Act → World → Prop) (Q : Exit → Act → World → Prop) : o.wp P a W K Q = o'.wp P a W K Q := by
  unfold Oper.wp
  rw [h]
  unfold Oper.upon
  rw [hd]
theorem Tl.congr {o o' : Oper} {c : Rec} (hd : o.dst = o'.dst) (h : ∀ (a : Act) W, (execOp a.eval o).run P W = (execOp a.eval o').run P W) (ht : Tl P o' c) : Tl P o c := fun X ρ M s a W K Q g hs hf hps hK => by
  rw [wp_congr hd h]
  exact ht X ρ M s a W K Q g hs hf hps hK

theorem append_ty {t t2 e e2 ty : TypeId} (hu : P.underlying t = some (.slice e)) (hu2 : P.underlying t2 = some (.slice e2)) (x y : Value) (W : World) : (Builtin.append_ #[t, t2] ty #[x, y]).run P W = (Builtin.append_ #[t, t] ty #[x, y]).run P W := by
  simp only [Builtin.append_, List.getElem?_toArray, List.getElem?_cons_zero, List.getElem?_cons_succ, Sem.run_bind, run_underlying hu, run_underlying hu2, Result.andThen_ok]
  cases x <;> simp only [Sem.run_bind, run_underlying hu, run_underlying hu2, Result.andThen_ok, Sem.run_pure]

theorem tl_append2 (hT : TabOK P T) {t t2 e e2 d n : Nat} {x y : Operand} {ds fs : List (List D)} {del : List Nat} {args : Array Operand} {ts : Array TypeId} (ho : o.op = .call { callee := .builtin .append, args := args, argTypes := ts }) (hargs : args = #[x, y]) (hts : ts = #[t, t2]) (hd : o.dst = some d) (hz : Nat.blt d r.sz = true) (hk : (T t).kd = .slice e) (hk2 : (T t2).kd = .slice e2) (he : (T e).kd.known = true)
    (hpos : (Nat.blt 0 (T e).size && lenL (T e).zero (T e).size) = true) (hx : dstOf r e x = some (ds, del)) (hy : srcOf r e y = some fs) (hyt : srcTy r e y = true) (hb : (ds.length + fs.length) * (T e).bytes ≤ room) (hm : ds.length + fs.length ≤ maxLen) : Tl P o (recNew r d (.orow n) n (.row e (ds ++ fs)) del) := by
  refine Tl.congr (o' := { o with op := .call { callee := .builtin .append, args := args, argTypes := #[t, t] } }) rfl (fun a W => ?_) (tl_append hT rfl hargs rfl hd hz hk he hpos hx hy hyt hb hm)
  subst hargs hts
  simp [execOp, ho, resolve, invoke, builtin, append_ty (kd_slice hT hk) (kd_slice hT hk2)]

theorem ylu_sliceRow (hT : TabOK P T) {t e id : Nat} {x l' : Operand} {es : List (List D)} {k1 : IntKind} {z1 : Int} (ho : o.op = .slice t x (some l') none none) (hk : (T t).kd = .slice e) (he : (T e).kd.known = true)
    (hx : ev r [] x = some (.b (.l (.orow id)))) (hlk : look id r.own = some (.row e es)) (h1 : ev r [] l' = some (dl (.int k1 z1))) (hl : 0 ≤ z1) (hh : z1 ≤ (es.length : Int)) : YlU P o r := fun X ρ M a W g => by
  obtain ⟨hr1, A, n, c, hxe⟩ := ev_den hx g (holds_nil _)
  have e1 := den_int (ev_den h1 g (holds_nil _))
  obtain ⟨u, xs, hu, how, _⟩ := g.own _ _ (look_mem hlk)
  rw [hr1] at hu; simp at hu; subst hu
  have hun := kd_slice hT hk
  have hel : P.elem t = e := by simp [Program.elem, hun]
  have hu' : P.underlying t = some (.slice (P.elem t)) := by rw [hel]; exact hun
  have hsz := (hT e he).run_size W
  have hn : n = es.length := by
    rcases how.2 with ⟨h2, h3⟩ | ⟨b, cap, cur, h2, _⟩
    · rw [hxe] at h2; simp at h2; omega
    · rw [hxe] at h2; simp at h2; exact h2.2.1
  refine ⟨sliced A z1.toNat n c (T e).size, ?_⟩
  simp [execOp, ho, hxe, e1, run_sliceAt_slice (h := hu'), run_slice_l W t A n c hu' k1 z1 hl (by omega), hel, hsz]
end Go.Cel

set_option linter.unusedVariables false
set_option linter.unusedSimpArgs false
namespace Go.Cel
variable {P : Program} {T : Nat → Ty} {X : CtxD} {ρ : Rho} {M : Imm} {r s s' : St} {a : Act} {W : World} {p : Path} {o : Oper} {v : A}

theorem bbeq (a b : ByteArray) : (a == b) = decide (a = b) := by
  show ByteArray.beq a b = _
  unfold ByteArray.beq
  cases a; cases b
  rw [Bool.eq_iff_iff]
  simp
instance : LawfulBEq ByteArray where
  eq_of_beq {a b} h := by rw [bbeq] at h; simpa using h
  rfl {a} := by rw [bbeq]; simp

def keyEq (k : D) (q : B) : Option Bool :=
  match k, q with
  | .int k a, .l (.d (.int k' b)) => bif sameKind k k' then some (a == b) else none
  | .str a, .l (.d (.str b)) => some (a == b)
  | _, _ => none
def findM (k : D) : List (B × B) → Nat → Option (Option (Nat × B))
  | [], _ => some none
  | (q, v) :: r, i => match keyEq k q with
    | some true => some (some (i, v))
    | some false => findM k r (i + 1)
    | none => none
/-- which keys a map's type takes. -/
def keyKd : Kd → D → Bool
  | .int _, .int _ _ => true
  | .str, .str _ => true
  | _, _ => false

theorem find_sound {d : TypeDesc} {k : D} {kv : Value} (hd : (∃ ik, d = .int ik ∧ ∃ j n, k = .int j n ∧ kv = .int j n) ∨ (d = .string ∧ ∃ b, k = .str b ∧ kv = .string b)) : ∀ {m : List (B × B)} {es : List MapEntry} {i : Nat} {res : Option (Nat × B)}, MapRep P M m es → findM k m i = some res →
    (res = none ∧ Instr.findNow d kv es i = some none) ∨ ∃ j q b e, res = some (i + j, b) ∧ m[j]? = some (q, b) ∧ es[j]? = some e ∧ Instr.findNow d kv es i = some (some (i + j, e.val)) ∧ DenB P noRho M b e.val ∧ Instr.sameNow d kv e.key = some true
  | [], [], i, res, hm, h => by
    simp [findM] at h
    exact .inl ⟨h.symm, by simp [Instr.findNow]⟩
  | [], _ :: _, _, _, hm, _ => hm.elim
  | _ :: _, [], _, _, hm, _ => hm.elim
  | (q, b) :: m, e :: es, i, res, hm, h => by
    have hk : ∀ z, keyEq k q = some z → Instr.sameNow d kv e.key = some z := fun z hz => by
      have hq := hm.1.1
      rcases hd with ⟨ik, rfl, j, n, rfl, rfl⟩ | ⟨rfl, s, rfl, rfl⟩
      · unfold keyEq at hz
        split at hz
        · rename_i k1 a1 k2 b2 e1
          cases e1
          cases hs : sameKind j k2 with
          | false => rw [hs] at hz; cases hz
          | true =>
            rw [hs] at hz
            have := sameKind_eq hs
            subst this
            have : e.key = .int j b2 := den_int (ρ := noRho) hq
            simp [Instr.sameNow, this]; simpa using hz
        · rename_i e1; cases e1
        · cases hz
      · unfold keyEq at hz
        split at hz
        · rename_i e1; cases e1
        · rename_i a1 b2 e1
          cases e1
          have : e.key = .string b2 := den_str (ρ := noRho) hq
          simp [Instr.sameNow, this]; simpa using hz
        · cases hz
    simp only [findM] at h
    split at h
    · rename_i hz
      simp at h; subst h
      refine .inr ⟨0, q, b, e, rfl, rfl, rfl, ?_, hm.1.2, hk _ hz⟩
      simp [Instr.findNow, hk _ hz]
    · rename_i hz
      rcases find_sound hd hm.2 h with ⟨h1, h2⟩ | ⟨j, q', b', e', h1, h2, h3, h4, h5, h6⟩
      · exact .inl ⟨h1, by simp [Instr.findNow, hk _ hz, h2]⟩
      · refine .inr ⟨j + 1, q', b', e', ?_, by simpa using h2, by simpa using h3, ?_, h5, h6⟩
        · rw [h1]; congr 2; omega
        · simp [Instr.findNow, hk _ hz, h4]; omega
    · cases h

theorem kd_map (hT : TabOK P T) {t k e : Nat} (hk : (T t).kd = .map k e) : P.underlying t = some (.map k e) := by
  have h1 := (hT t (known_of hk rfl)).kd
  rwa [hk] at h1
theorem key_desc (hT : TabOK P T) {kt : Nat} {k : D} {kv : Value} (hk : keyKd (T kt).kd k = true) (hd : DenD P M k kv) : ∃ d, P.underlying kt = some d ∧ ((∃ ik, d = .int ik ∧ ∃ j n, k = .int j n ∧ kv = .int j n) ∨ (d = .string ∧ ∃ b, k = .str b ∧ kv = .string b)) := by
  unfold keyKd at hk
  split at hk
  · rename_i ik j n h1
    have h2 := (hT kt (known_of h1 rfl)).kd
    rw [h1] at h2
    cases hd
    exact ⟨_, h2, .inl ⟨_, rfl, _, _, rfl, rfl⟩⟩
  · rename_i b h1
    cases hd
    exact ⟨_, kd_str hT h1, .inr ⟨rfl, _, rfl, rfl⟩⟩
  · cases hk

theorem run_checkKeyD {d : TypeDesc} {kt : TypeId} {k : D} {kv : Value} (hu : P.underlying kt = some d) (hd : (∃ ik, d = .int ik ∧ ∃ j n, k = .int j n ∧ kv = .int j n) ∨ (d = .string ∧ ∃ b, k = .str b ∧ kv = .string b)) (em : Bool) (n : Nat) : (Instr.checkKey em (n + 1) kt kv).run P W = .ok () W := by
  rcases hd with ⟨ik, rfl, j, m, rfl, rfl⟩ | ⟨rfl, b, rfl, rfl⟩ <;> simp [Instr.checkKey, run_underlying hu]

theorem noRho_le (ρ : Rho) : noRho.le ρ := fun _ _ h => by cases h

theorem run_zero {e : Nat} {zv : Value} (hz : (P.info? e).map (·.zero) = some (some zv)) (W : World) : (zeroValue e).run P W = .ok zv W := by
  obtain ⟨i, h1, h2⟩ := Option.map_eq_some_iff.1 hz
  simp [zeroValue, typeInfo, h1, h2]

theorem own_map (g : Gam P X ρ M r a W) {id : Nat} {t : TypeId} {m : List (B × B)} (hl : look id r.own = some (.map t m)) {x : Value} (hx : DenL P ρ M (.omap id) x) : ∃ gb es clock, ρ id = some (.map (some gb)) ∧ x = .map (some gb) ∧ W.heap[gb]? = some (.map es clock) ∧ MapRep P M m es.toList := by
  obtain ⟨gb, es, clock, h1, h2, h3⟩ := g.own _ _ (look_mem hl)
  obtain ⟨h4, h5⟩ := hx
  rw [h4] at h1; cases h1
  exact ⟨gb, es, clock, h4, rfl, h2, h3⟩

theorem tl_makeMap {t d n : Nat} (ho : o.op = .makeMap t none) (hd : o.dst = some d) (hz : Nat.blt d r.sz = true) : Tl P o (recNew r d (.omap n) n (.map t []) []) := by
  refine tl_new hd hz fun X ρ M s a W g _ _ => ?_
  refine ⟨.map (some W.heap.size), W.alloc (.map #[] 0), ?_, rfl, rfl, rfl, by simp, fun j hj _ => heap_alloc_old W _ hj, .map (some W.heap.size), fun k hk => .inl (by simp [gOf] at hk; omega), fun ρ' _ hn => ⟨⟨W.heap.size, #[], 0, hn, heap_alloc_new W _, trivial⟩, ⟨hn, _, rfl⟩⟩⟩
  have hrun : (Instr.makeMap t none).run P W = .ok (.map (some W.heap.size)) (W.alloc (.map #[] 0)) := rfl
  simp [execOp, ho, hrun]

theorem run_getMap {gb : Nat} {es : Array MapEntry} {clock : Nat} (h : W.heap[gb]? = some (.map es clock)) : (getObj gb).run P W = .ok (.map es clock) W := by simp [getObj, Sem.run, h]
theorem run_setMap {gb : Nat} {es : Array MapEntry} {clock : Nat} (ob : Obj) (h : W.heap[gb]? = some (.map es clock)) : ∃ W', (setObj gb ob).run P W = .ok () W' ∧ W'.os = W.os ∧ W'.tape = W.tape ∧ W'.output = W.output ∧ W'.heap.size = W.heap.size ∧ (∀ j, j ≠ gb → W'.heap[j]? = W.heap[j]?) ∧ W'.heap[gb]? = some ob := by
  have hlt := (Array.getElem?_eq_some_iff.1 h).1
  refine ⟨{ W with heap := W.heap.set! gb ob }, ?_, rfl, rfl, rfl, by simp, fun j hj => ?_, ?_⟩
  · simp [setObj, Sem.run, h]
  · simp [Array.getElem?_setIfInBounds, Ne.symm hj]
  · simp [Array.getElem?_setIfInBounds, hlt]

def lookA (zb : B) (ok : Bool) (res : Option (Nat × B)) : A :=
  match res, ok with
  | some (_, b), true => .tup [b, bD (.bool true)]
  | none, true => .tup [zb, bD (.bool false)]
  | some (_, b), false => .b b
  | none, false => .b zb
/-- A LOOK-UP. -/
theorem yl_lookup (hT : TabOK P T) {t kt et id t2 : Nat} {x y : Operand} {ok : Bool} {k : D} {m : List (B × B)} {res : Option (Nat × B)} {zv : Value} {zb : B} (ho : o.op = .lookup t x y ok) (hk : (T t).kd = .map kt et) (hx : ev r p x = some (.b (.l (.omap id)))) (hl : look id r.own = some (.map t2 m))
    (hy : ev r p y = some (dl k)) (hkd : keyKd (T kt).kd k = true) (hp : pin r p = true) (hf : findM k m 0 = some res) (hz : (P.info? et).map (·.zero) = some (some zv)) (hzd : ∀ M, DenB P noRho M zb zv)
    (hv : lookA zb ok res = v) : Yl P o r p v := by
  subst hv
  refine .of hp fun X ρ M a W g hh => ?_
  obtain ⟨gb, es, clock, h1, h2, h3, h4⟩ := own_map g hl (ev_den hx g hh)
  have hkv : DenD P M k (a.eval y) := ev_den hy g hh
  obtain ⟨d, hu, hd⟩ := key_desc hT hkd hkv
  have hm := kd_map hT hk
  rcases find_sound hd h4 hf with ⟨rfl, h6⟩ | ⟨j, q, b, e, rfl, h5, h6, h7, h8, h9⟩
  · have hrun : ∀ ok, (Instr.lookup t (a.eval x) (a.eval y) ok).run P W = .ok (if ok then .tuple #[zv, .bool false] else zv) W := fun ok => by
      simp [Instr.lookup, run_underlying hm, h2, run_getMap h3, run_checkKeyD hu hd, Instr.findKey, run_underlying hu, h6, run_zero hz]
    cases ok with
    | true => exact ⟨.tuple #[zv, .bool false], by simp [execOp, ho, hrun], ⟨[zv, .bool false], rfl, DenB.mono (noRho_le ρ) (Imm.le.refl _) (hzd M), .bool _, trivial⟩⟩
    | false => exact ⟨zv, by simp [execOp, ho, hrun], DenB.mono (noRho_le ρ) (Imm.le.refl _) (hzd M)⟩
  · have hrun : ∀ ok, (Instr.lookup t (a.eval x) (a.eval y) ok).run P W = .ok (if ok then .tuple #[e.val, .bool true] else e.val) W := fun ok => by
      simp [Instr.lookup, run_underlying hm, h2, run_getMap h3, run_checkKeyD hu hd, Instr.findKey, run_underlying hu, h7]
    cases ok with
    | true => exact ⟨.tuple #[e.val, .bool true], by simp [execOp, ho, hrun], ⟨[e.val, .bool true], rfl, DenB.mono (noRho_le ρ) (Imm.le.refl _) h8, .bool _, trivial⟩⟩
    | false => exact ⟨e.val, by simp [execOp, ho, hrun], DenB.mono (noRho_le ρ) (Imm.le.refl _) h8⟩

/-- a map with one entry turned, or one more. -/
def updM (k : D) (b : B) (m : List (B × B)) : Option (Nat × B) → List (B × B)
  | none => m ++ [(bD k, b)]
  | some (i, _) => m.modify i fun q => (q.1, b)

theorem MapRep.get {m : List (B × B)} {es : List MapEntry} (h : MapRep P M m es) : m.length = es.length := All2.length h
theorem MapRep.modify {b : B} {v : Value} (hb : DenB P noRho M b v) : ∀ {m : List (B × B)} {es : List MapEntry} (i : Nat), MapRep P M m es → MapRep P M (m.modify i fun q => (q.1, b)) (es.modify i fun e => { e with val := v })
  | [], [], i, h => by simp [MapRep, All2]
  | [], _ :: _, _, h => h.elim
  | _ :: _, [], _, h => h.elim
  | q :: m, e :: es, 0, h => ⟨⟨h.1.1, hb⟩, h.2⟩
  | q :: m, e :: es, i + 1, h => ⟨h.1, MapRep.modify hb i h.2⟩

theorem same_key {d : TypeDesc} {k : D} {kv x : Value} (hd : (∃ ik, d = .int ik ∧ ∃ j n, k = .int j n ∧ kv = .int j n) ∨ (d = .string ∧ ∃ b, k = .str b ∧ kv = .string b)) (h : Instr.sameNow d kv x = some true) : x = kv ∧ Instr.sameBits 10000 x kv = true := by
  rcases hd with ⟨ik, rfl, j, n, rfl, rfl⟩ | ⟨rfl, b, rfl, rfl⟩
  · cases x <;> simp [Instr.sameNow] at h
    obtain ⟨rfl, h⟩ := h
    subst h
    exact ⟨rfl, by simp [Instr.sameBits]⟩
  · cases x <;> simp [Instr.sameNow] at h
    have h : b = _ := h
    subst h
    exact ⟨rfl, by simp [Instr.sameBits]⟩

/-- AN ENTRY LAID. -/
theorem tl_mapUpdate (hT : TabOK P T) {t kt et id t2 : Nat} {x y z : Operand} {k : D} {b : B} {m : List (B × B)} {res : Option (Nat × B)} (ho : o.op = .mapUpdate t x y z ∨ o.op = .insert t x y z) (hd : o.dst = none) (hk : (T t).kd = .map kt et) (hx : ev r [] x = some (.b (.l (.omap id)))) (hl : look id r.own = some (.map t2 m))
    (hy : ev r [] y = some (dl k)) (hkd : keyKd (T kt).kd k = true) (hv : ev r [] z = some (.b b)) (hno : noOwnB b = true) (hf : findM k m 0 = some res) : Tl P o (recTurn r id (.map t2 (updM k b m res))) := by
  refine tl_turn hd hl fun X ρ M a W g => ?_
  obtain ⟨gb, es, clock, h1, h2, h3, h4⟩ := own_map g hl (ev_den hx g (holds_nil _))
  have hkv : DenD P M k (a.eval y) := ev_den hy g (holds_nil _)
  have hb : DenB P noRho M b (a.eval z) := noOwnB_den hno (ev_den hv g (holds_nil _))
  obtain ⟨d, hu, hd'⟩ := key_desc hT hkd hkv
  have hm := kd_map hT hk
  have hop : ∀ W', (Instr.mapUpdate t (a.eval x) (a.eval y) (a.eval z)).run P W = .ok () W' → (execOp a.eval o).run P W = .ok .skip W' := fun W' h => by
    rcases ho with ho | ho <;> simp [execOp, ho, h]
  rcases find_sound hd' h4 hf with ⟨rfl, h6⟩ | ⟨j, q, b0, e, rfl, h5, h6, h7, h8, h9⟩
  · obtain ⟨W', hs, q1, q2, q3, q4, q5, q6⟩ := run_setMap (P := P) (.map (es.push { key := a.eval y, val := a.eval z, born := clock }) (clock + 1)) h3
    refine ⟨_, gb, W', h1, rfl, hop W' ?_, q1, q2, q3, q4, q5, gb, _, _, h1, q6, ?_⟩
    · simp [Instr.mapUpdate, run_underlying hm, h2, run_getMap h3, run_checkKeyD hu hd', Instr.findKey, run_underlying hu, h6, hs]
    · simp only [updM, Array.toList_push]
      exact All2.append h4 ⟨⟨hkv, hb⟩, trivial⟩
  · obtain ⟨hkey, hbits⟩ := same_key hd' h9
    obtain ⟨W', hs, q1, q2, q3, q4, q5, q6⟩ := run_setMap (P := P) (.map (es.modify j fun e => { e with key := a.eval y, val := a.eval z }) clock) h3
    refine ⟨_, gb, W', h1, rfl, hop W' ?_, q1, q2, q3, q4, q5, gb, _, _, h1, q6, ?_⟩
    · have h6' : es[j]? = some e := by simpa using h6
      simp [Instr.mapUpdate, run_underlying hm, h2, run_getMap h3, run_checkKeyD hu hd', Instr.findKey, run_underlying hu, h7, h6', Instr.keyThatStays, hbits, hs]
    · have e1 : (es.modify j fun e => { e with key := a.eval y, val := a.eval z }).toList = es.toList.modify j fun e => { e with val := a.eval z } := by
        rw [Array.toList_modify]
        apply List.ext_getElem?
        intro i
        rw [List.getElem?_modify, List.getElem?_modify]
        by_cases hij : j = i
        · subst hij; simp only [if_true, h6]; rw [← hkey]; rfl
        · simp [hij]
      simp only [updM, e1, Nat.zero_add]
      exact h4.modify hb j

theorem yl_lenMap (hT : TabOK P T) {t t2 kt et id : Nat} {x : Operand} {m : List (B × B)} {args : Array Operand} {ts : Array TypeId} (ho : o.op = .call { callee := .builtin .len, args := args, argTypes := ts }) (hargs : args = #[x]) (hts : ts = #[t]) (hk : (T t).kd = .map kt et) (hx : ev r p x = some (.b (.l (.omap id)))) (hl : look id r.own = some (.map t2 m)) (hp : pin r p = true) :
    Yl P o r p (dl (.int .i64 (m.length : Int))) := by
  refine .of hp fun X ρ M a W g hh => ?_
  subst hargs hts
  obtain ⟨gb, es, clock, h1, h2, h3, h4⟩ := own_map g hl (ev_den hx g hh)
  refine ⟨.int .i64 (m.length : Int), ?_, .int _ _⟩
  have := MapRep.get h4
  simp [execOp, ho, resolve, invoke, h2, builtin, Builtin.len_, run_underlying (kd_map hT hk), run_getMap h3, goInt, this]

/-- An entry taken away. -/
def delM (m : List (B × B)) : Option (Nat × B) → List (B × B)
  | none => m
  | some (i, _) => m.eraseIdx i
theorem MapRep.erase : ∀ {m : List (B × B)} {es : List MapEntry} (i : Nat), MapRep P M m es → MapRep P M (m.eraseIdx i) (es.eraseIdx i)
  | [], [], i, h => by simp [MapRep, All2]
  | [], _ :: _, _, h => h.elim
  | _ :: _, [], _, h => h.elim
  | q :: m, e :: es, 0, h => h.2
  | q :: m, e :: es, i + 1, h => ⟨h.1, MapRep.erase i h.2⟩
theorem tl_delete (hT : TabOK P T) {t t3 kt et id t2 : Nat} {x y : Operand} {k : D} {m : List (B × B)} {res : Option (Nat × B)} {args : Array Operand} {ts : Array TypeId} (ho : o.op = .call { callee := .builtin .delete, args := args, argTypes := ts }) (hargs : args = #[x, y]) (hts : ts = #[t, t3]) (hd : o.dst = none) (hk : (T t).kd = .map kt et) (hx : ev r [] x = some (.b (.l (.omap id)))) (hl : look id r.own = some (.map t2 m))
    (hy : ev r [] y = some (dl k)) (hkd : keyKd (T kt).kd k = true) (hf : findM k m 0 = some res) : Tl P o (recTurnV r none (.tup []) id (.map t2 (delM m res))) := by
  rw [← hd]
  refine tl_turnV (by rw [hd]) hl fun X ρ M a W g => ?_
  subst hargs hts
  obtain ⟨gb, es, clock, h1, h2, h3, h4⟩ := own_map g hl (ev_den hx g (holds_nil _))
  have hkv : DenD P M k (a.eval y) := ev_den hy g (holds_nil _)
  obtain ⟨d, hu, hd'⟩ := key_desc hT hkd hkv
  have hm := kd_map hT hk
  rcases find_sound hd' h4 hf with ⟨rfl, h6⟩ | ⟨j, q, b0, e, rfl, h5, h6, h7, h8, h9⟩
  · obtain ⟨W', hs, q1, q2, q3, q4, q5, q6⟩ := run_setMap (P := P) (.map es clock) h3
    refine ⟨.tuple #[], W', ?_, ⟨[], rfl, trivial⟩, .inr ⟨_, gb, h1, rfl, q1, q2, q3, q4, q5, gb, _, _, h1, q6, h4⟩⟩
    simp [execOp, ho, resolve, invoke, builtin, Builtin.delete_, run_underlying hm, h2, run_getMap h3, run_checkKeyD hu hd', Instr.findKey, run_underlying hu, h6, hs]
  · obtain ⟨W', hs, q1, q2, q3, q4, q5, q6⟩ := run_setMap (P := P) (.map (es.eraseIdxIfInBounds j) clock) h3
    refine ⟨.tuple #[], W', ?_, ⟨[], rfl, trivial⟩, .inr ⟨_, gb, h1, rfl, q1, q2, q3, q4, q5, gb, _, _, h1, q6, ?_⟩⟩
    · simp [execOp, ho, resolve, invoke, builtin, Builtin.delete_, run_underlying hm, h2, run_getMap h3, run_checkKeyD hu hd', Instr.findKey, run_underlying hu, h7, hs]
    · have hj : j < es.size := by have := (List.getElem?_eq_some_iff.1 h6).1; simpa using this
      simp only [delM, Array.eraseIdxIfInBounds, hj, dif_pos, Array.toList_eraseIdx, Nat.zero_add]
      exact h4.erase j
def fullB : Nat → List (Nat × Blk) → Bool
  | 0, _ => true
  | n + 1, O => (match look n O with | some _ => true | none => false) && fullB n O
theorem full_of {O : List (Nat × Blk)} : ∀ {n : Nat}, fullB n O = true → ∀ i, i < n → ∃ b, look i O = some b
  | 0, _, i, h => absurd h (Nat.not_lt_zero i)
  | n + 1, h, i, hi => by
    simp only [fullB, Bool.and_eq_true] at h
    rcases Nat.lt_succ_iff_lt_or_eq.1 hi with h1 | rfl
    · exact full_of h.2 i h1
    · cases hl : look i O with
      | none => rw [hl] at h; simp at h
      | some b => exact ⟨b, rfl⟩
end Go.Cel

set_option linter.unusedVariables false
set_option linter.unusedSimpArgs false
namespace Go.Cel
variable {P : Program} {T : Nat → Ty} {X : CtxD} {ρ : Rho} {M : Imm} {r s s' : St} {a : Act} {W : World} {p : Path} {o : Oper} {v : A}

/-- Less known of a slot. -/
theorem ghost_weak {n0 : Nat} (d : Nat) {R : List (Nat × Path × A)} {O : List (Nat × Blk)} {n z : Nat} {gv : List (Nat × Path × Bool)} {as : Path} {v v' : A} (h : look d R = some ([], v)) (hw : WkA v v') : Ghost P n0 ⟨R, O, n, gv, as, z⟩ ⟨(d, [], v') :: R, O, n, gv, as, z⟩ := by
  intro X ρ M a W hX g
  obtain ⟨x, h1, h2⟩ := look_reg g h
  refine ⟨ρ, M, ⟨g.toMem, fun k p v hk => ?_, fun k p v hm => ?_, g.gv, g.wfg, g.asm, g.defers, g.sz⟩⟩
  · simp only [look_cons] at hk
    by_cases e' : d = k
    · subst e'
      simp at hk
      obtain ⟨rfl, rfl⟩ := hk
      exact ⟨_, h1, fun _ => hw.den h2, fun hh => absurd (holds_nil _) hh⟩
    · simp [e'] at hk
      exact g.regs k p v hk
  · rcases List.mem_cons.1 hm with e' | hm
    · cases e'; intro t b hh; simp at hh
    · exact g.wfr k p v hm

/-- The front of a slice, cut to its length. -/
theorem yl_slice3 (hT : TabOK P T) {t e : Nat} {x h' m' : Operand} {k1 k2 : IntKind} {z1 z2 : Int} {d : D} {es : List (List D)} (j : Nat) (ho : o.op = .slice t x none (some h') (some m')) (hk : (T t).kd = .slice e) (he : (T e).kd.known = true)
    (hx : ev r p x = some (dl d)) (hd : d = .seq e es ∨ d = .cutsl e es) (h1 : ev r p h' = some (dl (.int k1 z1))) (h2 : ev r p m' = some (dl (.int k2 z2))) (hp : pin r p = true) (hz1 : z1 = (j : Int)) (hz2 : z2 = (j : Int)) (hj : j ≤ es.length) : Yl P o r p (dl (.cutsl e (es.take j))) := by
  refine .of hp fun X ρ M a W g hh => ?_
  have hdx := den_inv (ev_den hx g hh)
  have e1 := den_int (ev_den h1 g hh)
  have e2 := den_int (ev_den h2 g hh)
  subst hz1 hz2
  have hun := kd_slice hT hk
  have hel : P.elem t = e := by simp [Program.elem, hun]
  have hu' : P.underlying t = some (.slice (P.elem t)) := by rw [hel]; exact hun
  have hsz := (hT e he).run_size W
  generalize hxe : a.eval x = xv at hdx
  have run : ∀ (ad : Option Addr) (n c : Nat), xv = .slice ad n c → j ≤ c → (execOp a.eval o).run P W = .ok (.value (.slice ad j j)) W := by
    intro ad n c hxv hc
    subst hxv
    have := run_slice_hm W t ad n c hu' k1 k2 (j : Int) (j : Int) (by omega) (by omega) (by omega)
    have hs : sliced ad 0 j j (T e).size = .slice ad j j := by
      simp only [sliced]
      by_cases h0 : j = 0
      · subst h0; simp
      · cases ad <;> simp [h0, Addr.add]
    simp [execOp, ho, hxe, e1, e2, run_sliceAt_slice (h := hu'), this, hel, hsz, hs]
  have fin : ∀ (ad : Addr) (f : Nat → Nat → Value), es.length ≤ maxLen → es.length * P.bytesOf e ≤ room → (∀ (i : Nat) (cs : List D), es[i]? = some cs → cs.length = P.cellsOf e) →
      (∀ (i : Nat) (cs : List D) (j : Nat) (x : D), es[i]? = some cs → cs[j]? = some x → M.cell (ad.add (i * P.cellsOf e + j)) = some (f i j)) →
      (∀ (i : Nat) (cs : List D) (j : Nat) (x : D), es[i]? = some cs → cs[j]? = some x → DenD P M x (f i j)) → DenD P M (.cutsl e (es.take j)) (.slice (some ad) j j) := fun ad f hm hb hs hc hd => by
    have hl : (es.take j).length = j := by simp; omega
    have hget : ∀ (i : Nat) cs, (es.take j)[i]? = some cs → es[i]? = some cs := fun i cs h => by
      rw [List.getElem?_take] at h
      split at h
      · exact h
      · cases h
    have := DenD.cut (P := P) (M := M) e (es.take j) ad f (by omega) (Nat.le_trans (Nat.mul_le_mul_right _ (by omega)) hb) (fun i cs h => hs i cs (hget i cs h)) (fun i cs j x h => hc i cs j x (hget i cs h)) (fun i cs j x h => hd i cs j x (hget i cs h))
    rwa [hl] at this
  have fin0 : ∀ (A : Option Addr), es = [] → DenD P M (.cutsl e (es.take j)) (.slice A j j) := fun A h => by
    subst h
    have : j = 0 := by simpa using hj
    subst this
    exact .cut0 _ _
  rcases hd with rfl | rfl
  · cases hdx with
    | seq0 _ A c => exact ⟨_, run _ _ _ rfl (by simp at hj; omega), fin0 A rfl⟩
    | seq _ _ ad c f hc hcm hb hs hcell hden => exact ⟨_, run _ _ _ rfl (by omega), fin ad f (by omega) hb hs hcell hden⟩
  · cases hdx with
    | cut0 _ A => exact ⟨_, run _ _ _ rfl (by simpa using hj), fin0 A rfl⟩
    | cut _ _ ad f hcm hb hs hcell hden => exact ⟨_, run _ _ _ rfl hj, fin ad f hcm hb hs hcell hden⟩

theorem yl_lenCut (hT : TabOK P T) {t e : Nat} {x : Operand} {es : List (List D)} {args : Array Operand} {ts : Array TypeId} (ho : o.op = .call { callee := .builtin .len, args := args, argTypes := ts }) (hargs : args = #[x]) (hts : ts = #[t]) (hk : (T t).kd = .slice e) (hx : ev r p x = some (dl (.cutsl e es))) (hp : pin r p = true) :
    Yl P o r p (dl (.int .i64 (es.length : Int))) := by
  refine .of hp fun X ρ M a W g hh => ?_
  subst hargs hts
  have hdx := den_inv (ev_den hx g hh)
  generalize hxe : a.eval x = xv at hdx
  have hu := kd_slice hT hk
  refine ⟨.int .i64 (es.length : Int), ?_, .int _ _⟩
  cases hdx <;> simp [execOp, ho, resolve, invoke, hxe, builtin, Builtin.len_, run_underlying hu, goInt]

/-- A row of one's own that none turns any more. -/
theorem row_seq {t : TypeId} {es : List (List D)} {u : Value} {xs : List Value} (how : W.ownsRow 0 t (P.cellsOf t) u es.length xs) (hrep : RowRep P M (P.cellsOf t) es xs) (hroom : es.length * P.bytesOf t ≤ room) (hM : ∀ g, gOf u = some g → M g = W.heap[g]?) : DenD P M (.seq t es) u := by
  rcases how.2 with ⟨rfl, h0⟩ | ⟨g, cap, cur, rfl, _, hg, hnc, hcm, hcs, htake⟩
  · obtain rfl : es = [] := List.eq_nil_of_length_eq_zero h0
    exact .seq0 t none 0
  · have hMg := hM g rfl
    have hcell : ∀ j u, xs[j]? = some u → Imm.cell M ⟨g, j, none⟩ = some u := by
      intro j u hj
      unfold Imm.cell
      simp only [hMg, hg]
      simp only [Option.isSome_none, Bool.false_eq_true, if_false]
      rw [← htake, List.getElem?_take] at hj
      split at hj
      · simpa using hj
      · simp at hj
    by_cases hes : es = []
    · subst hes; exact .seq0 t _ cap
    · refine .seq t es ⟨g, 0, none⟩ cap (fun i j => xs[i * P.cellsOf t + j]?.getD Go.undef) hnc hcm hroom (fun i cs hi => (hrep.2 i cs hi).1) ?_ ?_
      · intro i cs j x hi hj
        obtain ⟨u, h1, h2⟩ := (hrep.2 i cs hi).2 j x hj
        rw [Addr.add0, hcell _ _ h1, h1]; rfl
      · intro i cs j x hi hj
        obtain ⟨u, h1, h2⟩ := (hrep.2 i cs hi).2 j x hj
        simp only [h1, Option.getD_some]; exact h2

/-- One block more that none turns. -/
theorem Gam.grow (g : Gam P X ρ M s a W) {ob : Obj} {W' : World} (hk : Kept W W') (hnew : W'.heap[W.heap.size]? = some ob) : ∃ M' : Imm, M.le M' ∧ M' W.heap.size = some ob ∧ Gam P X ρ M' s a W' := by
  have g1 := g.kept hk
  have hnone := gOf_none_imm g
  have hM : M.le (fun k => if k = W.heap.size then some ob else M k) := fun k o h => by
    have : k ≠ W.heap.size := fun e => by subst e; rw [hnone] at h; cases h
    simp [this, h]
  refine ⟨fun k => if k = W.heap.size then some ob else M k, hM, by simp, ⟨⟨g1.os, g1.tape, g1.output, g1.size, g1.old, fun b o h => ?_, g1.mono.trans hM, fun b o h => ?_, g1.rle, g1.nle, g1.rfr, g1.fresh, fun id b h => ?_, fun id b v k h hv hk' => ?_, g1.dist⟩, fun k q u h => ?_, g1.wfr, g1.gv, g1.wfg, g1.asm, g1.defers, g1.sz⟩⟩
  · by_cases e : b = W.heap.size
    · subst e; simp at h; subst h; exact hnew
    · simp [e] at h; exact g1.imm b o h
  · by_cases e : b = W.heap.size
    · subst e; exact .inr (.inr g.size)
    · simp [e] at h; exact g1.newM b o h
  · exact (g1.own id b h).keep (Rho.le.refl _) hM fun _ _ _ _ => rfl
  · have h1 := g1.mine id b v k h hv hk'
    refine ⟨?_, h1.2⟩
    have : k ≠ W.heap.size := fun e => by have := (g.own id b h).lt hv hk'; omega
    simp [this, h1.1]
  · obtain ⟨x, h1, h2, h3⟩ := g1.regs k q u h
    exact ⟨x, h1, fun hh => DenA.mono (Rho.le.refl _) hM (h2 hh), h3⟩

/-- APPEND to a slice that is cut to its length. -/
theorem yl_appendCut (hT : TabOK P T) {t e : Nat} {x y : Operand} {ds fs : List (List D)} {args : Array Operand} {ts : Array TypeId} (ho : o.op = .call { callee := .builtin .append, args := args, argTypes := ts }) (hargs : args = #[x, y]) (hts : ts = #[t, t]) (hk : (T t).kd = .slice e) (he : (T e).kd.known = true)
    (hpos : (Nat.blt 0 (T e).size && lenL (T e).zero (T e).size) = true) (hx : ev r [] x = some (dl (.cutsl e ds))) (hy : srcOf r e y = some fs) (hyt : srcTy r e y = true) (hb : (ds.length + fs.length) * (T e).bytes ≤ room) (hm : ds.length + fs.length ≤ maxLen) : Yl P o r [] (dl (.seq e (ds ++ fs))) := by
  intro X ρ M s a W K Q g hsub hh hK
  have gr := g.sub hsub
  subst hargs hts
  have ht := hT e he
  have hsize := ht.size
  have hbytes := ht.bytes
  obtain ⟨i, zv, hi, hsz, hby, hzv, hzd⟩ := ht.info
  simp only [Bool.and_eq_true] at hpos
  have hu := kd_slice hT hk
  have hrs := ht.run_size W
  have hzs : zv.cells.size = (T e).size := by have := All2.length (hzd M); rw [lenL_eq hpos.2] at this; simpa using this.symm
  obtain ⟨A, c, ys, hye, hyr, hyc⟩ := src_den gr hT he hy hyt
  have hd := den_inv (ev_den hx gr (holds_nil _))
  have hxs : ∃ B xs, a.eval x = .slice B ds.length ds.length ∧ RowRep P M (T e).size ds xs ∧ (ds ≠ [] → ∃ ad, B = some ad) ∧ (∀ ad, B = some ad → ∀ j u, xs[j]? = some u → W.cell? (ad.add j) = some u) := by
    generalize hxe : a.eval x = xv at hd
    cases hd with
    | cut0 _ B => exact ⟨B, [], rfl, ⟨by simp, by simp⟩, fun h => absurd rfl h, fun ad _ j u h => by simp at h⟩
    | cut _ _ ad f hcm hb hs hcell hden =>
      rw [hsize] at hs hcell
      obtain ⟨xs, h1, h2⟩ := rowRep_seq (e := e) hs hcell hden
      exact ⟨some ad, xs, rfl, h1, fun _ => ⟨ad, rfl⟩, fun ad' e' j u hu => by cases e'; exact Imm.cell_world g.imm (h2 j u hu)⟩
  obtain ⟨B, xs, hxe, hxr, hne, hxc⟩ := hxs
  unfold Oper.wp
  by_cases hfs : fs = []
  · subst hfs
    have hys : ys = [] := List.eq_nil_of_length_eq_zero (by simpa using hyr.1)
    subst hys
    have hrun : (execOp a.eval o).run P W = .ok (.value (a.eval x)) W := by
      rw [hxe]
      cases A <;> cases B <;> simp [execOp, ho, resolve, invoke, builtin, hxe, hye, Builtin.append_, run_underlying hu, hrs, Builtin.lenOf, Builtin.firstCells, loadCells, loadCellsFrom, storeCells]
    rw [hrun]
    refine hK M W _ (Kept.refl W) (Imm.le.refl M) g ?_
    have := (Wk.uncut e ds).den hd
    show DenD P M (.seq e (ds ++ [])) (a.eval x)
    rw [List.append_nil]; exact this
  · have hfp : 0 < fs.length := List.length_pos_iff.2 hfs
    obtain ⟨ad, rfl, hc⟩ := hyc hfs
    have hall := hxr.app hyr
    have hxl : xs.length = ds.length * i.size := by rw [hsz]; exact hxr.1
    have hyl : ys.length = fs.length * i.size := by rw [hsz]; exact hyr.1
    simp only [room] at hb
    simp only [maxLen] at hm
    have main : ∃ cap, ds.length + fs.length ≤ cap ∧ cap ≤ maxLen ∧ (Builtin.append_ #[t, t] o.type #[.slice B ds.length ds.length, .slice (some ad) fs.length c]).run P W = .ok (.slice (some ⟨W.heap.size, 0, none⟩) (ds.length + fs.length) cap) (W.drew.alloc (.cells (xs.toArray ++ ys.toArray ++ Builtin.zeroCells zv.cells (cap - (ds.length + fs.length))) e)) := by
      cases B with
      | none =>
        have h0 : ds = [] := by
          apply Classical.byContradiction
          intro h
          obtain ⟨_, h'⟩ := hne h
          cases h'
        subst h0
        have hx0 : xs = [] := List.eq_nil_of_length_eq_zero (by simpa using hxr.1)
        subst hx0
        refine ⟨grownCap W fs.length 0 e, by simpa using grownCap_ge W fs.length 0 e, grownCap_le_maxLen W fs.length 0 e (by simp only [maxLen]; simp at hm; omega), ?_⟩
        have := run_append_nil (P := P) W t o.type e i zv hu hi hzv ad fs.length c ys hyl hc hfp (by simp at hm; omega) (by rw [hby]; simp at hb; omega)
        simpa using this
      | some b =>
        refine ⟨grownCap W (ds.length + fs.length) ds.length e, grownCap_ge W _ _ e, grownCap_le_maxLen W _ _ e (by simp only [maxLen]; omega), ?_⟩
        exact run_append_grow (P := P) W t o.type e i zv hu hi hzv b ds.length ds.length xs hxl (hxc b rfl) ad fs.length c ys hyl hc (by omega) (by omega) (growslice_fits (by omega) (by rw [hby]; exact hb))
    obtain ⟨cap, hcap1, hcap2, hrun0⟩ := main
    have hrun : (execOp a.eval o).run P W = .ok (.value (.slice (some ⟨W.heap.size, 0, none⟩) (ds.length + fs.length) cap)) (W.drew.alloc (.cells (xs.toArray ++ ys.toArray ++ Builtin.zeroCells zv.cells (cap - (ds.length + fs.length))) e)) := by
      simp [execOp, ho, resolve, invoke, builtin, hxe, hye, hrun0]
    rw [hrun]
    generalize hcur : xs.toArray ++ ys.toArray ++ Builtin.zeroCells zv.cells (cap - (ds.length + fs.length)) = cur
    have hcl : cur.toList = (xs ++ ys) ++ (Builtin.zeroCells zv.cells (cap - (ds.length + fs.length))).toList := by rw [← hcur]; simp
    have hkept : Kept W (W.drew.alloc (.cells cur e)) := ⟨rfl, rfl, rfl, by simp, fun b hb => heap_alloc_old W.drew _ hb⟩
    obtain ⟨M', hM, hMg, g'⟩ := g.grow hkept (heap_alloc_new W.drew _)
    refine hK M' _ _ hkept hM g' ?_
    have hlen : (xs ++ ys).length = (ds ++ fs).length * (T e).size := hall.1
    have hown : (W.drew.alloc (.cells cur e)).ownsRow 0 e (P.cellsOf e) (.slice (some ⟨W.heap.size, 0, none⟩) (ds.length + fs.length) cap) (ds ++ fs).length (xs ++ ys) := by
      rw [hsize]
      refine ⟨hlen, .inr ⟨W.heap.size, cap, cur, by simp, Nat.zero_le _, heap_alloc_new W.drew _, by simpa using hcap1, hcap2, ?_, ?_⟩⟩
      · have h1 := congrArg List.length hcl
        have h2 : (Builtin.zeroCells zv.cells (cap - (ds.length + fs.length))).toList.length = (cap - (ds.length + fs.length)) * (T e).size := by simp [size_zeroCells, hzs]
        have h3 : cur.toList.length = cur.size := by simp
        rw [List.length_append, hlen, h2, ← Nat.add_mul, h3] at h1
        rw [h1]; congr 1; simp; omega
      · rw [hcl, ← hlen, List.take_left']
        simp
    have hden : DenD P M' (.seq e (ds ++ fs)) (.slice (some ⟨W.heap.size, 0, none⟩) (ds.length + fs.length) cap) := by
      have hrep' : RowRep P M' (T e).size (ds ++ fs) (xs ++ ys) := ⟨hall.1, fun i cs h => ⟨(hall.2 i cs h).1, fun j x hj => by
        obtain ⟨u, q1, q2⟩ := (hall.2 i cs h).2 j x hj
        exact ⟨u, q1, DenD.mono hM q2⟩⟩⟩
      refine row_seq hown (by rw [hsize]; exact hrep') (by rw [hbytes]; simp only [room, List.length_append]; exact hb) fun gb hgb => ?_
      simp [gOf] at hgb; subst hgb
      exact hMg.trans (heap_alloc_new W.drew _).symm
    exact hden
/-- WAYS MEET AGAIN. -/
theorem V_cut (R : St → Prop) {c : Code} {k : List It} {Q : Post} (h : V P X (.c c :: .stop R :: k) s Q) (hv : ∀ s', R s' → V P X k s' Q) : V P X (.c c :: k) s Q := fun ρ M a W g => by
  refine wp_mono (h ρ M a W g) fun e a' w' q => ?_
  cases e with
  | normal =>
    obtain ⟨ρ3, M3, s3, g3, hR⟩ := q
    exact hv s3 hR ρ3 M3 a' w' g3
  | exit id => exact q
  | goto l => exact q
  | ret => exact q
  | panic ch => exact q
  | outgrown => exact q
/-- the same, where one state tells what both ways leave. -/
theorem V_meet {n0 : Nat} (hX : X.n0 = n0) (s1 : St) {c : Code} {k : List It} {Q : Post} (h : V P X (.c c :: .stop (fun s' => Ghost P n0 s' s1) :: k) s Q) (hv : V P X k s1 Q) : V P X (.c c :: k) s Q :=
  V_cut _ h fun s' hR => V_ghost hX hR hv
end Go.Cel

set_option linter.unusedVariables false
set_option linter.unusedSimpArgs false
namespace Go.Cel
variable {P : Program} {T : Nat → Ty} {X : CtxD} {ρ : Rho} {M : Imm} {r s s' : St} {a : Act} {W : World} {p : Path} {o : Oper} {v : A}

/-- A CONTRACT of a function whose call is put off. -/
def ConD (P : Program) (f : FuncId) (o : List (Nat × Blk)) (nx : Nat) (args : List B) (R : A → List (Nat × Blk) → Nat → Prop) : Prop :=
  (∀ (xs : Array Value) (W : World), (callFunc f xs).run P W = .ok (.enter f xs) W) ∧
  ∀ (W : World) (ρ : Rho) (M : Imm) (vs : List Value) (u : FrameMode), Mem P ⟨W, handed ρ o, M, ρ, nx⟩ ρ M o nx W → All2 (DenB P ρ M) args vs →
    CallsD P f vs.toArray u W fun e u' W' => u' = u ∧ Fin P o nx R W ρ M e W'

theorem conD_intro (hT : TabOK P T) {f : FuncId} {F : Func} {c : Code} (hf : P.funcs[f]? = some F) (hb : F.body = some c) (hname : (F.name == "runtime.NumGoroutine") = false)
    {o : List (Nat × Blk)} {nx : Nat} {args : List B} {R : A → List (Nat × Blk) → Nat → Prop} (hlen : Nat.ble args.length F.ntmps = true)
    (h : ∀ X, X.n0 = nx → V P X [.c c] ⟨initGo 0 args, o, nx, [], [], F.ntmps⟩ (Ends P T nx F R)) : ConD P f o nx args R :=
  ⟨enter_of hf hb hname, fun W ρ M vs u hm ha => callsD_of_wp hf hb (con_wp (f := f) hT hlen h W ρ M vs hm ha)⟩

abbrev AD := List (FuncId × List B)
def DenDs (P : Program) (ρ : Rho) (M : Imm) : AD → List Deferred → Prop :=
  All2 fun q d => ∃ fv cap vs, d.target = .fn fv cap ∧ (∀ W, (invoke d.target d.args).run P W = .ok (.enter q.1 (List.toArray vs)) W) ∧ All2 (DenB P ρ M) q.2 vs
theorem DenDs.mono {ρ' : Rho} {M' : Imm} (hr : ρ.le ρ') (hM : M.le M') {ads : AD} {ds : List Deferred} (h : DenDs P ρ M ads ds) : DenDs P ρ' M' ads ds :=
  All2.imp (fun _ _ ⟨fv, cap, vs, h1, h2, h3⟩ => ⟨fv, cap, vs, h1, h2, All2.imp (fun _ _ q => DenB.mono hr hM q) h3⟩) h

theorem Gam.ctx {C : Ctx} {ds : List Deferred} {F F' : Exit → Act → World → Prop} (g : Gam P ⟨C, ds, F⟩ ρ M s a W) : Gam P ⟨C, ds, F'⟩ ρ M s a W :=
  ⟨g.toMem, g.regs, g.wfr, g.gv, g.wfg, g.asm, g.defers, g.sz⟩
theorem Gam.defs {C : Ctx} {ds ds' : List Deferred} {F F' : Exit → Act → World → Prop} (g : Gam P ⟨C, ds, F⟩ ρ M s a W) : Gam P ⟨C, ds', F'⟩ ρ M s { a with defers := ds' } W :=
  ⟨g.toMem, g.regs, g.wfr, g.gv, g.wfg, g.asm, rfl, g.sz⟩

abbrev noF : Exit → Act → World → Prop := fun _ _ _ => False
/-- The end of a function that has put off calls. -/
def FD (P : Program) (C0 : Ctx) (QD : AD → St → Prop) (e : Exit) (a : Act) (W : World) : Prop :=
  (e = .normal ∨ e = .ret) ∧ ∃ ads ds ρ M s, Gam P ⟨C0, ds, noF⟩ ρ M s a W ∧ DenDs P ρ M ads ds ∧ QD ads s
def QF (QD : AD → St → Prop) (ads : AD) : Post := fun e s => (e = .normal ∨ e = .ret) ∧ QD ads s
/-- X knows what was put off, and stands on C0. -/
def Pins (P : Program) (C0 : Ctx) (X : CtxD) (ads : AD) : Prop :=
  ∀ ds ρ M s a W, Gam P ⟨X.toCtx, ds, noF⟩ ρ M s a W → Gam P ⟨C0, ds, noF⟩ ρ M s a W ∧ DenDs P ρ M ads X.ds

theorem lift_FD {C0 : Ctx} {QD : AD → St → Prop} {ads : AD} (hF : X.F = FD P C0 QD) (hp : Pins P C0 X ads) : lift P X (QF QD ads) = FD P C0 QD := by
  funext e a W
  apply propext
  constructor
  · rintro (h | ⟨ρ, M, s, g, he, hq⟩)
    · rw [hF] at h; exact h
    · obtain ⟨C, ds, F⟩ := X
      obtain ⟨g1, hd⟩ := hp ds ρ M s a W g.ctx
      exact ⟨he, ads, ds, ρ, M, s, g1, hd, hq⟩
  · intro h
    exact .inl (by rw [hF]; exact h)

def noStop : List It → Bool
  | [] => true
  | .stop _ :: _ => false
  | .c _ :: k => noStop k
  | .blk _ :: k => noStop k
theorem konts_noStop {X X' : CtxD} {F : Exit → Act → World → Prop} : ∀ {k : List It}, noStop k = true → konts P X F k = konts P X' F k
  | [], _ => rfl
  | .c c :: k, h => by simp only [konts, konts_noStop (X := X) (X' := X') (F := F) (k := k) h]
  | .blk id :: k, h => by simp only [konts, konts_noStop (X := X) (X' := X') (F := F) (k := k) h]
  | .stop _ :: k, h => by simp [noStop] at h

/-- The function that an operation puts off. -/
def deferOf (s : St) (o : Oper) : Option (FuncId × List B) :=
  match o.op with
  | .defer { callee := .value cal, args := args, .. } => match calleeOf s cal, evArgs s args.toList with
    | some (f, a, b), some l => some (f, a ++ (l ++ b))
    | _, _ => none
  | _ => none

theorem deferOf_run {f : FuncId} {args : List B} (g : Gam P X ρ M s a W) (h : deferOf s o = some (f, args)) (hE : ∀ (xs : Array Value) (W : World), (callFunc f xs).run P W = .ok (.enter f xs) W) :
    ∃ d fv cap vs, (execOp a.eval o).run P W = .ok (.defer d) W ∧ d.target = .fn fv cap ∧ (∀ W, (invoke d.target d.args).run P W = .ok (.enter f (List.toArray vs)) W) ∧ All2 (DenB P ρ M) args vs := by
  unfold deferOf at h
  split at h
  · rename_i cal xs ts ho
    split at h
    · rename_i f' fa fb l hcal hargs
      simp at h
      obtain ⟨rfl, rfl⟩ := h
      have ha := evArgs_den g hargs
      have fin : ∃ first caps : List Value, a.eval cal = .func (.func f') first.toArray caps.toArray ∧ All2 (DenB P ρ M) fa first ∧ All2 (DenB P ρ M) fb caps := by
        unfold calleeOf at hcal
        split at hcal
        · rename_i f2; simp at hcal; obtain ⟨rfl, rfl, rfl⟩ := hcal; exact ⟨[], [], rfl, trivial, trivial⟩
        · rename_i t
          split at hcal
          · rename_i q f2 x y hl
            cases hc : covers s.asm [] q with
            | false => simp [hc] at hcal
            | true =>
              simp [hc] at hcal; obtain ⟨rfl, rfl, rfl⟩ := hcal
              obtain ⟨z, h1, h2, _⟩ := g.regs _ _ _ hl
              have h3 : DenD P M (.fn f2 x y) z := h2 (holds_covers hc g.asm (holds_nil _))
              rw [reg_eval h1]
              cases h3 with
              | fn _ _ _ ws us hx hy g1 g2 hg1 hg2 d1 d2 => exact ⟨ws, us, rfl, All2_get_d hx hg1 d1, All2_get_d hy hg2 d2⟩
          · rename_i q f2 x y hl
            cases hc : covers s.asm [] q with
            | false => simp [hc] at hcal
            | true =>
              simp [hc] at hcal; obtain ⟨rfl, rfl, rfl⟩ := hcal
              obtain ⟨z, h1, h2, _⟩ := g.regs _ _ _ hl
              obtain ⟨ws, us, h3, h4, h5⟩ := h2 (holds_covers hc g.asm (holds_nil _))
              rw [reg_eval h1]
              exact ⟨ws, us, h3, All2_cB h4, All2_cB h5⟩
          · simp at hcal
        · simp at hcal
      obtain ⟨first, caps, h1, h2, h3⟩ := fin
      refine ⟨⟨.fn (.func f') caps.toArray, (first ++ xs.toList.map a.eval).toArray⟩, .func f', caps.toArray, first ++ (xs.toList.map a.eval ++ caps), ?_, rfl, fun W => ?_, All2.append h2 (All2.append ha h3)⟩
      · simp [execOp, ho, resolve, h1, Deferred.ofValue]
      · simp [invoke, hE]
    · simp at h
  · simp at h

/-- A CALL IS PUT OFF. -/
theorem VL_defer {C0 : Ctx} {QD : AD → St → Prop} {ads : AD} {f : FuncId} {args : List B} {all rest : List Oper} {k : List It} (hF : X.F = FD P C0 QD) (hp : Pins P C0 X ads) (hE : ∀ (xs : Array Value) (W : World), (callFunc f xs).run P W = .ok (.enter f xs) W)
    (hd : deferOf s o = some (f, args)) (hg : ready all s o = true) (hdst : o.dst = none) (hk : noStop k = true)
    (hv : ∀ X' : CtxD, X'.n0 = s.nx → X'.F = FD P C0 QD → Pins P C0 X' ((f, args) :: ads) → VL P X' all rest k s (QF QD ((f, args) :: ads))) : VL P X all (o :: rest) k s (QF QD ads) := by
  intro ρ M a W g
  obtain ⟨d, fv, cap, vs, hrun, htar, hinv, hargs⟩ := deferOf_run g hd hE
  have hpin : Pins P C0 ⟨⟨X.W0, X.K, M, ρ, s.nx⟩, d :: X.ds, X.F⟩ ((f, args) :: ads) := fun ds ρ' M' s' a' W' g' => by
    have g2 : Gam P ⟨X.toCtx, ds, noF⟩ ρ' M' s' a' W' :=
      ⟨⟨g'.os, g'.tape, g'.output, g'.size, g'.old, g'.imm, g.mono.trans g'.mono, fun b o h => by
        rcases g'.newM b o h with h1 | h1
        · exact g.newM b o h1
        · exact .inr h1, g.rle.trans g'.rle, Nat.le_trans g.nle g'.nle, g.rfr, g'.fresh, g'.own, g'.mine, g'.dist⟩, g'.regs, g'.wfr, g'.gv, g'.wfg, g'.asm, g'.defers, g'.sz⟩
    obtain ⟨g3, hd3⟩ := hp ds ρ' M' s' a' W' g2
    exact ⟨g3, ⟨fv, cap, vs, htar, hinv, All2.imp (fun _ _ q => DenB.mono g'.rle g'.mono q) hargs⟩, hd3⟩
  have g1 : Gam P ⟨⟨X.W0, X.K, M, ρ, s.nx⟩, d :: X.ds, X.F⟩ ρ M s { a with defers := d :: a.defers } W :=
    ⟨⟨g.os, g.tape, g.output, g.size, g.old, g.imm, Imm.le.refl M, fun b o h => .inl h, Rho.le.refl ρ, Nat.le_refl _, g.fresh, g.fresh, g.own, g.mine, g.dist⟩, g.regs, g.wfr, g.gv, g.wfg, g.asm, by simp [g.defers], g.sz⟩
  have h2 := hv ⟨⟨X.W0, X.K, M, ρ, s.nx⟩, d :: X.ds, X.F⟩ rfl hF hpin ρ M _ W g1
  rw [lift_FD (X := ⟨⟨X.W0, X.K, M, ρ, s.nx⟩, d :: X.ds, X.F⟩) hF hpin, konts_noStop (X' := X) hk] at h2
  rw [lift_FD hF hp]
  refine wpList_do (ready_wanted g hg) ?_
  unfold Oper.wp
  rw [hrun]
  show wpList P all.toArray _ rest ({ a with defers := d :: a.defers }.put o.dst undef) W
  rw [hdst]
  exact h2

/-- What is left to do at the end: the calls that were put off, one by one. -/
def LeaveA (P : Program) (T : Nat → Ty) (n0 : Nat) (F : Func) (R : A → List (Nat × Blk) → Nat → Prop) : AD → St → Prop
  | [], s => EndsS P T n0 F R s
  | (f, args') :: ads, s => ∃ (m mn : Nm) (O O' o1 add : List (Nat × Blk)) (nx nx' nn : Nat) (args : List B) (r0 res : A),
      ConD P f O nx args (fun r' o' n' => r' = r0 ∧ o' = O' ∧ n' = nx') ∧ nmBs m some args [] = some args' ∧ nmO m some O [] = some o1 ∧ allIn s.own o1 ∧
      (allLt nx (keysN m) && allGe nx (keysN mn) && allLt nx' (keysN mn) && distinct (valsN mn) && distinct (keysN mn) && distinct (valsN m)) = true ∧
      (∀ i, i < nx → ∃ b, look i O = some b) ∧ distinct (keysN O) = true ∧ nmA (m ++ mn) r0 some = some res ∧ nmO (m ++ mn) some O' [] = some add ∧ distinct (keysN add) = true ∧
      (Nat.ble s.nx nn && allFresh s.nx nn (valsN mn)) = true ∧ LeaveA P T n0 F R ads ⟨s.regs, add.reverse ++ remP (valsN m) s.own, nn, s.gv, s.asm, s.sz⟩

theorem leave_call {n0 : Nat} {F : Func} {R : A → List (Nat × Blk) → Nat → Prop} {f : FuncId} {args' args : List B} {ads : AD} {O O' o1 add : List (Nat × Blk)} {nx nx' : Nat} {r0 res : A} (m mn : Nm) (nn : Nat)
    (con : ConD P f O nx args fun r' o' n' => r' = r0 ∧ o' = O' ∧ n' = nx') (ha : nmBs m some args [] = some args') (hO : nmO m some O [] = some o1) (hin : allIn s.own o1)
    (hm : (allLt nx (keysN m) && allGe nx (keysN mn) && allLt nx' (keysN mn) && distinct (valsN mn) && distinct (keysN mn) && distinct (valsN m)) = true) (hfull : ∀ i, i < nx → ∃ b, look i O = some b) (hkO : distinct (keysN O) = true)
    (hres : nmA (m ++ mn) r0 some = some res) (hadd : nmO (m ++ mn) some O' [] = some add) (hka : distinct (keysN add) = true) (hn : (Nat.ble s.nx nn && allFresh s.nx nn (valsN mn)) = true)
    (h : LeaveA P T n0 F R ads ⟨s.regs, add.reverse ++ remP (valsN m) s.own, nn, s.gv, s.asm, s.sz⟩) : LeaveA P T n0 F R ((f, args') :: ads) s :=
  ⟨m, mn, O, O', o1, add, nx, nx', nn, args, r0, res, con, ha, hO, hin, hm, hfull, hkO, hres, hadd, hka, hn, h⟩

theorem leaves_of (hT : TabOK P T) {F : Func} {R : A → List (Nat × Blk) → Nat → Prop} {o : List (Nat × Blk)} {nx : Nat} {W0 : World} {ρ0 : Rho} {M0 : Imm} : ∀ {ads : AD} {ds : List Deferred} {ρ : Rho} {M : Imm} {s : St} {a : Act} {W : World},
    Gam P ⟨⟨W0, handed ρ0 o, M0, ρ0, nx⟩, ds, noF⟩ ρ M s a W → DenDs P ρ M ads ds → LeaveA P T nx F R ads s → Leaves P F a.tmps (Fin P o nx R W0 ρ0 M0) ds .returning W
  | [], [], ρ, M, s, a, W, g, _, h => by
    obtain ⟨v, ρ2, M2, r, o', nx', hrun, hd, hR, hmem, hdef⟩ := endsS_run hT (n0 := nx) rfl g h
    exact ⟨v, hrun, ρ2, M2, r, v, o', nx', rfl, hd, hR, hmem⟩
  | [], _ :: _, _, _, _, _, _, _, hd, _ => hd.elim
  | _ :: _, [], _, _, _, _, _, _, hd, _ => hd.elim
  | (f, args') :: ads, d :: ds, ρ, M, s, a, W, g, hd, h => by
    obtain ⟨⟨fv, cap, vs, htar, hinv, hargs⟩, hds⟩ := hd
    obtain ⟨m, mn, O, O', o1, add, nx1, nx', nn, args, r0, res, con, ha, hO, hin, hm, hfull, hkO, hres, hadd, hka, hn, hrest⟩ := h
    simp only [Bool.and_eq_true] at hn
    have g0 := g.raise (m := nn) (Nat.le_of_ble_eq_true hn.1)
    obtain ⟨ρc, hmem0, hargs', hpost⟩ := call_core m mn ha hO hm hfull hkO hres hadd hka g0 (fun x hx => look_mem (allIn_mem hin hx)) (fun n hn' => by
      have := allFresh_mem hn.2 hn'
      exact ⟨g.fresh n this.1, this.2⟩) hargs
    refine ⟨by simp, fv, cap, f, vs.toArray, htar, hinv W, (con.2 W ρc M vs .returning hmem0 hargs').mono ?_⟩
    rintro e u' W' ⟨rfl, ρ', M', r', v, o', n', rfl, hdv, ⟨rfl, rfl, rfl⟩, hmm⟩
    obtain ⟨ρ'', hρle, hMle, hnone, g1, hv''⟩ := hpost ρ' M' v W' hdv hmm
    have g2 := g1.defs (ds' := ds) (F' := noF)
    exact leaves_of (a := { a with defers := ds }) hT g2 (DenDs.mono hρle hMle hds) hrest

/-- THE BEGIN OF A WALK of a function that puts calls off. -/
theorem con_introD (hT : TabOK P T) {f : FuncId} {F : Func} {c : Code} (hf : P.funcs[f]? = some F) (hb : F.body = some c) (hname : (F.name == "runtime.NumGoroutine") = false)
    {o : List (Nat × Blk)} {nx : Nat} {args : List B} {R : A → List (Nat × Blk) → Nat → Prop} (hlen : Nat.ble args.length F.ntmps = true)
    (h : ∀ (X : CtxD) (C0 : Ctx), X.n0 = nx → X.F = FD P C0 (LeaveA P T nx F R) → Pins P C0 X [] → V P X [.c c] ⟨initGo 0 args, o, nx, [], [], F.ntmps⟩ (QF (LeaveA P T nx F R) [])) : Con P f o nx args R := by
  refine ⟨enter_of hf hb hname, fun W ρ M vs hm ha => calls_of_wp_defers hf hb ?_⟩
  have g := start_gam (f := f) (F := F) (Fx := FD P ⟨W, handed ρ o, M, ρ, nx⟩ (LeaveA P T nx F R)) hlen hm ha
  have hpin : Pins P ⟨W, handed ρ o, M, ρ, nx⟩ ⟨⟨W, handed ρ o, M, ρ, nx⟩, [], FD P ⟨W, handed ρ o, M, ρ, nx⟩ (LeaveA P T nx F R)⟩ [] := fun ds ρ' M' s' a' W' g' => ⟨g', trivial⟩
  have := h _ ⟨W, handed ρ o, M, ρ, nx⟩ rfl rfl hpin ρ M _ W g
  rw [lift_FD (C0 := ⟨W, handed ρ o, M, ρ, nx⟩) rfl hpin] at this
  simp only [konts] at this
  refine wp_mono this fun e a' W' q => ?_
  have q' : FD P ⟨W, handed ρ o, M, ρ, nx⟩ (LeaveA P T nx F R) e a' W' := by cases e <;> exact q
  obtain ⟨he, ads, ds, ρ1, M1, s1, g1, hd, hq⟩ := q'
  have hdef : a'.defers = ds := g1.defers
  have hl := leaves_of hT g1 hd hq
  rw [← hdef] at hl
  rcases he with rfl | rfl <;> exact hl

theorem con_fin {f : FuncId} {o : List (Nat × Blk)} {nx : Nat} {args : List B} {R R' : A → List (Nat × Blk) → Nat → Prop} (h : Con P f o nx args R) (hR : ∀ r o' n, R r o' n → R' r o' n) : Con P f o nx args R' :=
  ⟨h.1, fun W ρ M vs hm ha => (h.2 W ρ M vs hm ha).mono fun e W' ⟨ρ', M', r, v, o', nx', h1, h2, h3, h4⟩ => ⟨ρ', M', r, v, o', nx', h1, h2, hR _ _ _ h3, h4⟩⟩
end Go.Cel

set_option linter.unusedVariables false
namespace Go.Cel

def zeroIs : List D → List Value → Bool
  | [], [] => true
  | .int k n :: r, .int k' m :: s => sameKind k k' && n == m && zeroIs r s
  | .bool b :: r, .bool c :: s => b == c && zeroIs r s
  | .str b :: r, .string c :: s => (b.data.toList == c.data.toList) && zeroIs r s
  | .nilsl :: r, .slice none 0 0 :: s => zeroIs r s
  | .nilp :: r, .pointer none :: s => zeroIs r s
  | .nilfn :: r, .nilFunc :: s => zeroIs r s
  | .nilmap :: r, .map none :: s => zeroIs r s
  | _, _ => false

theorem zeroIs_den {P : Program} {M : Imm} : ∀ {l : List D} {vs : List Value}, zeroIs l vs = true → All2 (DenD P M) l vs := by
  intro l
  induction l with
  | nil => intro vs h; cases vs <;> simp_all [zeroIs, All2]
  | cons x r ih =>
    intro vs h
    unfold zeroIs at h
    split at h
    · trivial
    · rename_i k n r' k' m s e
      simp only [Bool.and_eq_true, beq_iff_eq] at h
      cases e
      have hk : k = k' := by have := h.1.1; cases k <;> cases k' <;> simp_all [sameKind]
      subst hk
      obtain ⟨⟨_, rfl⟩, h⟩ := h
      exact ⟨.int _ _, ih h⟩
    · rename_i b r' c s e
      simp only [Bool.and_eq_true, beq_iff_eq] at h
      cases e
      obtain ⟨rfl, h⟩ := h
      exact ⟨.bool _, ih h⟩
    · rename_i b r' c s e
      simp only [Bool.and_eq_true, beq_iff_eq] at h
      cases e
      obtain ⟨⟨b⟩⟩ := b
      obtain ⟨⟨c⟩⟩ := c
      simp only at h
      obtain ⟨rfl, h⟩ := h
      exact ⟨.str _, ih h⟩
    · rename_i e; cases e; exact ⟨.nilsl, ih h⟩
    · rename_i e; cases e; exact ⟨.nilp, ih h⟩
    · rename_i e; cases e; exact ⟨.nilfn, ih h⟩
    · rename_i e; cases e; exact ⟨.nilmap, ih h⟩
    · cases h

def fieldsIs (P : Program) : List (Nat × Nat) → List Field → Bool
  | [], [] => true
  | (off, t) :: r, f :: s => Nat.beq off f.offset && Nat.beq t f.type && !(Nat.beq (P.cellsOf f.type) 0) && (match P.info? f.type with | some _ => true | none => false) && fieldsIs P r s
  | _, _ => false

theorem fieldsIs_ok {P : Program} : ∀ {fs : List (Nat × Nat)} {l : List Field}, fieldsIs P fs l = true → l.map (fun f => (f.offset, f.type)) = fs ∧ ∀ f ∈ l, P.cellsOf f.type ≠ 0 ∧ ∃ i, P.info? f.type = some i
  | [], [], _ => by simp
  | (off, t) :: r, f :: s, h => by
    simp only [fieldsIs, Bool.and_eq_true] at h
    obtain ⟨⟨⟨⟨h1, h2⟩, h3⟩, h4⟩, h5⟩ := h
    obtain ⟨h6, h7⟩ := fieldsIs_ok h5
    refine ⟨by simp [h6, Nat.eq_of_beq_eq_true h1, Nat.eq_of_beq_eq_true h2], ?_⟩
    intro f' hf
    rcases List.mem_cons.1 hf with rfl | hf
    · refine ⟨fun e => by simp [e, Nat.beq_refl] at h3, ?_⟩
      cases hi : P.info? f'.type with
      | none => simp [hi] at h4
      | some i => exact ⟨i, rfl⟩
    · exact h7 f' hf
  | [], _ :: _, h => by simp [fieldsIs] at h
  | _ :: _, [], h => by simp [fieldsIs] at h

def kdIs (P : Program) : Kd → TypeDesc → Bool
  | .int k, .int k' => sameKind k k'
  | .bool, .bool => true
  | .str, .string => true
  | .slice e, .slice e' => Nat.beq e e'
  | .struct fs, .struct fields => fieldsIs P fs fields.toList
  | .ptr e, .pointer e' => Nat.beq e e'
  | .arr n e, .array n' e' => Nat.beq n n' && Nat.beq e e'
  | .map k e, .map k' e' => Nat.beq k k' && Nat.beq e e'
  | .fn, .func _ _ _ => true
  | _, _ => false

def tyIs (P : Program) (t : Nat) (ty : Ty) : Bool :=
  match ty.kd with
  | .other => true
  | _ => match P.info? t, P.underlying t with
    | some i, some d => Nat.beq i.size ty.size && Nat.beq i.bytes ty.bytes && (match i.zero with | some z => zeroIs ty.zero z.cells.toList | none => false) && kdIs P ty.kd d
    | _, _ => false

theorem tyIs_ok {P : Program} {t : Nat} {ty : Ty} (hk : ty.kd.known = true) (h : tyIs P t ty = true) : TyOK P t ty := by
  have h' : (match P.info? t, P.underlying t with
    | some i, some d => Nat.beq i.size ty.size && Nat.beq i.bytes ty.bytes && (match i.zero with | some z => zeroIs ty.zero z.cells.toList | none => false) && kdIs P ty.kd d
    | _, _ => false) = true := by
    unfold tyIs at h
    cases hkd : ty.kd <;> rw [hkd] at h hk <;> first | exact h | simp [Kd.known] at hk
  cases hi : P.info? t with
  | none => simp [hi] at h'
  | some i =>
    cases hu : P.underlying t with
    | none => simp [hi, hu] at h'
    | some d =>
      simp only [hi, hu, Bool.and_eq_true] at h'
      obtain ⟨⟨⟨h1, h2⟩, h3⟩, h4⟩ := h'
      cases hz : i.zero with
      | none => simp [hz] at h3
      | some z =>
        simp only [hz] at h3
        refine ⟨?_, i, z, hi, Nat.eq_of_beq_eq_true h1, Nat.eq_of_beq_eq_true h2, hz, fun M => zeroIs_den h3⟩
        generalize ty.kd = kd at h4
        unfold kdIs at h4
        split at h4 <;> simp only [kdOK]
        · rename_i k k'
          have : k = k' := by cases k <;> cases k' <;> simp_all [sameKind]
          rw [hu, this]
        · exact hu
        · exact hu
        · rw [hu, Nat.eq_of_beq_eq_true h4]
        · obtain ⟨h5, h6⟩ := fieldsIs_ok h4
          exact ⟨_, hu, h5, h6⟩
        · rw [hu, Nat.eq_of_beq_eq_true h4]
        · simp only [Bool.and_eq_true] at h4
          rw [hu, Nat.eq_of_beq_eq_true h4.1, Nat.eq_of_beq_eq_true h4.2]
        · simp only [Bool.and_eq_true] at h4
          rw [hu, Nat.eq_of_beq_eq_true h4.1, Nat.eq_of_beq_eq_true h4.2]
        · exact ⟨_, _, _, hu⟩
        · cases h4

def tabIs (P : Program) : Nat → List Ty → Bool
  | _, [] => true
  | n, ty :: r => tyIs P n ty && tabIs P (n + 1) r

theorem tabIs_get {P : Program} : ∀ {l : List Ty} {n : Nat}, tabIs P n l = true → ∀ j ty, l[j]? = some ty → tyIs P (n + j) ty = true
  | [], n, h, j, ty, e => by simp at e
  | x :: r, n, h, j, ty, e => by
    simp only [tabIs, Bool.and_eq_true] at h
    cases j with
    | zero => simp at e; subst e; exact h.1
    | succ j =>
      have := tabIs_get h.2 j ty (by simpa using e)
      rwa [show n + 1 + j = n + (j + 1) by omega] at this

theorem tabOK_of {P : Program} {tab : List Ty} (h : tabIs P 0 tab = true) : TabOK P (fun t => tab.getD t .none) := by
  intro t hk
  simp only [List.getD_eq_getElem?_getD] at hk ⊢
  cases e : tab[t]? with
  | none => rw [e] at hk; simp [Ty.none, Kd.known] at hk
  | some ty =>
    rw [e] at hk
    simp only [Option.getD_some] at hk ⊢
    have := tabIs_get h t ty e
    rw [Nat.zero_add] at this
    exact tyIs_ok hk this

end Go.Cel
