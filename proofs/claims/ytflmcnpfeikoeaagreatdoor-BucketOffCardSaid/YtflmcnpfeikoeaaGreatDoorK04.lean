/- CelO: rules for single operations that turn blocks of one's own: new ones, stores, slice literals, append, make. -/
import Derived.Test.YtflmcnpfeikoeaaGreatDoorK03
import Derived.Great.BuildSlice
import Derived.Maps.AppendAt
import Derived.Laws.OwnMore
set_option linter.unusedVariables false
set_option linter.unusedSimpArgs false
namespace Go.Cel
variable {P : Program} {T : Nat → Ty} {X : CtxD} {ρ : Rho} {M : Imm} {r s s' : St} {a : Act} {W : World} {p : Path} {o : Oper} {v : A}

theorem remP_mem {del : List Nat} {O : List (Nat × Blk)} {id : Nat} {b : Blk} : (id, b) ∈ remP del O ↔ (id, b) ∈ O ∧ id ∉ del := by
  unfold remP
  rw [List.mem_filter]
  simp only [Bool.not_eq_true']
  constructor
  · rintro ⟨h1, h2⟩; exact ⟨h1, fun h => by rw [memN_mem.2 h] at h2; cases h2⟩
  · rintro ⟨h1, h2⟩
    refine ⟨h1, ?_⟩
    cases h : memN id del with
    | false => rfl
    | true => exact absurd (memN_mem.1 h) h2

/-- One block more, in the place of others or beside them. -/
theorem Gam.swap (g : Gam P X ρ M s a W) {del : List Nat} {n : Nat} {b : Blk} {hv : Value} (hfr : ρ n = none) (hlt : n < s.nx) {W' : World} (hos : W'.os = W.os) (htp : W'.tape = W.tape) (hout : W'.output = W.output) (hsize : W.heap.size ≤ W'.heap.size)
    (hoth : ∀ j, j < W.heap.size → (∀ id b v, (id, b) ∈ s.own → id ∈ del → ρ id = some v → gOf v ≠ some j) → W'.heap[j]? = W.heap[j]?)
    (hk : ∀ k, gOf hv = some k → W.heap.size ≤ k ∨ ∃ id b v, (id, b) ∈ s.own ∧ id ∈ del ∧ ρ id = some v ∧ gOf v = some k)
    (hb : BlkOK P (ρ.add n hv) M W' n b) : Gam P X (ρ.add n hv) M { s with own := (n, b) :: remP del s.own } a W' := by
  have hle := Rho.le_add (v := hv) hfr
  have hne : ∀ id b, (id, b) ∈ s.own → id ≠ n := fun id b hm e => by
    subst e
    exact ((g.own _ _ hm).rho hfr).elim
  have hrho : ∀ id b, (id, b) ∈ s.own → (ρ.add n hv) id = ρ id := fun id b hm => by
    unfold Rho.add
    rw [if_neg (hne id b hm)]
  have hnew : (ρ.add n hv) n = some hv := by simp [Rho.add]
  have hnd : ∀ id b, (id, b) ∈ remP del s.own → ∀ v j, ρ id = some v → gOf v = some j → ∀ id' b' v', (id', b') ∈ s.own → id' ∈ del → ρ id' = some v' → gOf v' ≠ some j := fun id b hm v j hv' hj id' b' v'' hm' hd hv'' hj' => by
    obtain ⟨h1, h2⟩ := remP_mem.1 hm
    have := (g.dist id b id' b' v v'' j h1 hm' hv' hv'' hj hj').1
    subst this; exact h2 hd
  refine ⟨⟨hos.trans g.os, htp.trans g.tape, hout.trans g.output, Nat.le_trans g.size hsize, ?_, ?_, g.mono, g.newM, g.rle.trans hle, g.nle, g.rfr, ?_, ?_, ?_, ?_⟩, ?_, g.wfr, g.gv, g.wfg, g.asm, g.defers, g.sz⟩
  · intro k hk' hK
    rw [hoth k (Nat.lt_of_lt_of_le hk' g.size) fun id b v hm hd hv' hj => ?_]
    · exact g.old k hk' hK
    · rcases (g.mine id b v k hm hv' hj).2 with h | h
      · exact hK h
      · omega
  · intro k ob hk'
    have h1 := g.imm k ob hk'
    rw [hoth k (Array.getElem?_eq_some_iff.1 h1).1 fun id b v hm hd hv' hj => ?_]
    · exact h1
    · rw [(g.mine id b v k hm hv' hj).1] at hk'; cases hk'
  · intro id hid
    unfold Rho.add
    rw [if_neg (by simp at hid; omega)]
    exact g.fresh id hid
  · intro id b' hm
    rcases List.mem_cons.1 hm with e | hm
    · cases e; exact hb
    · have hm' := (remP_mem.1 hm).1
      refine (g.own id b' hm').keep hle (Imm.le.refl _) fun u k hu hk' => ?_
      exact hoth k ((g.own id b' hm').lt hu hk') (hnd id b' hm u k hu hk')
  · intro id b' u k hm hu hk'
    rcases List.mem_cons.1 hm with e | hm
    · cases e
      rw [hnew] at hu; cases hu
      rcases hk k hk' with h | ⟨id', b'', v', h1, h2, h3, h4⟩
      · refine ⟨?_, .inr (Nat.le_trans g.size h)⟩
        cases hM : M k with
        | none => rfl
        | some ob => have := (Array.getElem?_eq_some_iff.1 (g.imm k ob hM)).1; omega
      · exact g.mine id' b'' v' k h1 h3 h4
    · have hm' := (remP_mem.1 hm).1
      rw [hrho id b' hm'] at hu
      exact g.mine id b' u k hm' hu hk'
  · have key : ∀ id b', (id, b') ∈ remP del s.own → ∀ u k, ρ id = some u → gOf u = some k → gOf hv ≠ some k := fun id b' hm u k hu hk1 hk2 => by
      have hm' := (remP_mem.1 hm).1
      rcases hk k hk2 with h | ⟨id', b'', v', h1, h2, h3, h4⟩
      · exact absurd ((g.own id b' hm').lt hu hk1) (by omega)
      · exact hnd id b' hm u k hu hk1 id' b'' v' h1 h2 h3 h4
    intro id b1 id' b2 u u' k hm hm' hu hu' hk1 hk2
    rcases List.mem_cons.1 hm with e | hm <;> rcases List.mem_cons.1 hm' with e' | hm'
    · cases e; cases e'; exact ⟨rfl, rfl⟩
    · cases e
      rw [hnew] at hu; cases hu
      rw [hrho id' b2 (remP_mem.1 hm').1] at hu'
      exact absurd hk1 (key id' b2 hm' u' k hu' hk2)
    · cases e'
      rw [hnew] at hu'; cases hu'
      rw [hrho id b1 (remP_mem.1 hm).1] at hu
      exact absurd hk2 (key id b1 hm u k hu hk1)
    · rw [hrho id b1 (remP_mem.1 hm).1] at hu
      rw [hrho id' b2 (remP_mem.1 hm').1] at hu'
      exact g.dist id b1 id' b2 u u' k (remP_mem.1 hm).1 (remP_mem.1 hm').1 hu hu' hk1 hk2
  · intro k q u hk'
    obtain ⟨x, h1, h2, h3⟩ := g.regs k q u hk'
    exact ⟨x, h1, fun hh => DenA.mono hle (Imm.le.refl _) (h2 hh), h3⟩

/-- A new value in the place of blocks that go. -/
def recNew (r : St) (d : Nat) (y : L) (n : Nat) (b : Blk) (del : List Nat) : Rec := ⟨r, [(d, [], .b (.l y))], [], del, [(n, b)], [n]⟩

theorem tl_new {d n : Nat} {del : List Nat} {b : Blk} {y : L} (hd : o.dst = some d) (hz : Nat.blt d r.sz = true)
    (h : ∀ X ρ M s a W, Gam P X ρ M r a W → Gam P X ρ M s a W → SubS r s → ∃ x W', (execOp a.eval o).run P W = .ok (.value x) W' ∧ W'.os = W.os ∧ W'.tape = W.tape ∧ W'.output = W.output ∧ W.heap.size ≤ W'.heap.size ∧
      (∀ j, j < W.heap.size → (∀ id b v, (id, b) ∈ s.own → id ∈ del → ρ id = some v → gOf v ≠ some j) → W'.heap[j]? = W.heap[j]?) ∧
      ∃ hv, (∀ k, gOf hv = some k → W.heap.size ≤ k ∨ ∃ id b v, (id, b) ∈ s.own ∧ id ∈ del ∧ ρ id = some v ∧ gOf v = some k) ∧
      (∀ ρ' : Rho, ρ.le ρ' → ρ' n = some hv → BlkOK P ρ' M W' n b ∧ DenL P ρ' M y x)) : Tl P o (recNew r d y n b del) := by
  intro X ρ M s a W K Q g hs hf hps hK
  obtain ⟨x, W', h1, h2, h3, h4, h5, h6, hv, h7, h8⟩ := h X ρ M s a W (g.sub hs) g hs
  obtain ⟨hfr, hlt⟩ := hf n (by simp [recNew])
  have hnew : (ρ.add n hv) n = some hv := by simp [Rho.add]
  obtain ⟨h9, h10⟩ := h8 (ρ.add n hv) (Rho.le_add hfr) hnew
  have g1 := g.swap hfr hlt h2 h3 h4 h5 h6 h7 h9
  have hz' : d < s.sz := by have h0 := blt_lt hz; have h1 : r.sz = s.sz := hs.sz; omega
  have g2 := g1.putR (p := []) (v := .b (.l y)) (d := d) (hps (d, [], .b (.l y)) (by simp [recNew])) hz' (x := x) ⟨fun _ => h10, fun hh => absurd (holds_nil _) hh⟩ (by simp)
  unfold Oper.wp
  rw [h1]
  rw [← hd] at g2
  refine hK (ρ.add n hv) M _ W' (fun m hm hnm => ?_) (by rw [apply_eq]; exact g2)
  unfold Rho.add
  rw [if_neg (by simp [recNew] at hnm; exact hnm)]
  exact hm

theorem tl_alloc (hT : TabOK P T) {t d n : Nat} (ho : o.op = .alloc t) (hd : o.dst = some d) (hz : Nat.blt d r.sz = true) (hk : (T t).kd.known = true) : Tl P o (recNew r d (.ptr n 0) n (.cells ((T t).zero.map L.d) t) []) := by
  refine tl_new hd hz fun X ρ M s a W g _ _ => ?_
  obtain ⟨i, zv, hi, _, _, hz, hzd⟩ := (hT t hk).info
  refine ⟨.pointer (some ⟨W.heap.size, 0, none⟩), { W with heap := W.heap.push (.cells zv.cells t) }, ?_, rfl, rfl, rfl, by simp, fun j hj _ => ?_, .pointer (some ⟨W.heap.size, 0, none⟩), fun k hk => .inl (by simp [gOf] at hk; omega), fun ρ' _ hn => ⟨⟨W.heap.size, zv.cells.toList, hn, by simp, by simpa using All2_d (hzd M)⟩, ⟨_, hn, rfl⟩⟩⟩
  · simp [execOp, ho, Instr.alloc, zeroValue, typeInfo, hi, hz, newVar, newRow]
  · simp only []
    rw [Array.getElem?_push, if_neg (Nat.ne_of_lt hj)]

theorem tl_box (hT : TabOK P T) {t d n : Nat} {x : Operand} {u : A} {cs : List L} (ho : o.op = .box t x) (hd : o.dst = some d) (hz : Nat.blt d r.sz = true) (hx : ev r [] x = some u) (hc : cellsA u = some cs) : Tl P o (recNew r d (.ptr n 0) n (.cells cs t) []) := by
  refine tl_new hd hz fun X ρ M s a W g _ _ => ?_
  have hdn := cellsA_den hc (ev_den hx g (holds_nil _))
  refine ⟨.pointer (some ⟨W.heap.size, 0, none⟩), { W with heap := W.heap.push (.cells (a.eval x).cells t) }, ?_, rfl, rfl, rfl, by simp, fun j hj _ => ?_, .pointer (some ⟨W.heap.size, 0, none⟩), fun k hk => .inl (by simp [gOf] at hk; omega), fun ρ' hle hn => ⟨⟨W.heap.size, (a.eval x).cells.toList, hn, by simp, All2.imp (fun _ _ q => DenL.mono hle (Imm.le.refl _) q) hdn⟩, ⟨_, hn, rfl⟩⟩⟩
  · simp [execOp, ho, Instr.box, newVar, newRow]
  · simp only []
    rw [Array.getElem?_push, if_neg (Nat.ne_of_lt hj)]

/-! Rows out of parts. -/
def allDs : List L → Option (List D)
  | [] => some []
  | .d x :: r => match allDs r with
    | some l => some (x :: l)
    | none => none
  | _ :: _ => none
theorem allDs_eq : ∀ {cs : List L} {ds : List D}, allDs cs = some ds → cs = ds.map L.d
  | [], ds, h => by simp [allDs] at h; subst h; rfl
  | .d x :: r, ds, h => by
    simp only [allDs] at h
    split at h
    · rename_i l hl; simp at h; subst h; simp [allDs_eq hl]
    · simp at h
  | .ptr _ _ :: _, _, h => by simp [allDs] at h
  | .orow _ :: _, _, h => by simp [allDs] at h
  | .optr _ _ _ _ :: _, _, h => by simp [allDs] at h
  | .osl _ _ _ _ :: _, _, h => by simp [allDs] at h
  | .omap _ :: _, _, h => by simp [allDs] at h
  | .ofn _ _ _ :: _, _, h => by simp [allDs] at h

def rowGo (r : St) (sz : Nat) : List (Nat × Operand) → Nat → Option (List (List D))
  | [], _ => some []
  | (i, x) :: q, k => match ev r [] x with
    | some u => match cellsA u with
      | some cs => match allDs cs with
        | some ds => bif Nat.beq i k && lenL ds sz then (match rowGo r sz q (k + 1) with
          | some es => some (ds :: es)
          | none => none) else none
        | none => none
      | none => none
    | none => none

theorem All2_undD : ∀ {ds : List D} {vs : List Value}, All2 (DenL P ρ M) (ds.map L.d) vs → All2 (DenD P M) ds vs
  | [], [], _ => trivial
  | _ :: _, _ :: _, h => ⟨h.1, All2_undD h.2⟩
  | [], _ :: _, h => h.elim
  | _ :: _, [], h => h.elim

theorem splice_eq {α : Type} (off : Nat) (new cs : List α) : splice off new cs = cs.take off ++ (new ++ cs.drop (off + new.length)) := rfl
theorem splice_splice {α : Type} {off : Nat} {x y cs : List α} (h : off + x.length + y.length ≤ cs.length) : splice (off + x.length) y (splice off x cs) = splice off (x ++ y) cs := by
  have h1 : (cs.take off).length = off := by simp; omega
  unfold splice
  rw [← List.append_assoc (cs.take off) x]
  have h2 : (cs.take off ++ x).length = off + x.length := by simp; omega
  rw [← h2, List.take_left]
  rw [List.drop_append, List.drop_of_length_le (by omega), List.nil_append, List.drop_drop, h2]
  simp [Nat.add_assoc, Nat.add_comm]

theorem fill_rows (hp : Gam P X ρ M r a W) {sz : Nat} : ∀ {parts : List (Nat × Operand)} {k : Nat} {es : List (List D)} (arr : Array Value), rowGo r sz parts k = some es → (k + parts.length) * sz ≤ arr.size →
    ∃ arr' xs, Instr.fill (fun i => some (i * sz, sz)) arr (parts.map fun (i, x) => (i, a.eval x)) = some arr' ∧ arr'.toList = splice (k * sz) xs arr.toList ∧ RowRep P M sz es xs ∧ es.length = parts.length
  | [], k, es, arr, h, hl => by
    simp [rowGo] at h; subst h
    exact ⟨arr, [], by simp [Instr.fill], by simp [splice_nil], ⟨by simp, by simp⟩, rfl⟩
  | (i, x) :: q, k, es, arr, h, hl => by
    simp only [rowGo] at h
    split at h
    · rename_i u hx
      split at h
      · rename_i cs hc
        split at h
        · rename_i ds hds
          cases hb : (Nat.beq i k && lenL ds sz) with
          | false => simp [hb] at h
          | true =>
            simp only [hb, cond_true] at h
            simp only [Bool.and_eq_true] at hb
            have hik := Nat.eq_of_beq_eq_true hb.1
            have hlen := lenL_eq hb.2
            subst hik
            split at h
            · rename_i es' hes
              simp at h; subst h
              have hd := cellsA_den hc (ev_den hx hp (holds_nil _))
              rw [allDs_eq hds] at hd
              have hd' := All2_undD hd
              have hsz : (a.eval x).cells.size = sz := by
                have := All2.length hd'; simp at this; omega
              have hfit : i * sz + sz ≤ arr.size := by
                refine Nat.le_trans ?_ hl
                rw [← Nat.succ_mul]
                exact Nat.mul_le_mul_right _ (by simp)
              have hfold := foldl_splice (i * sz) (a.eval x).cells.toList 0 arr (by simp; omega)
              have hfold' : ((a.eval x).cells.zipIdx.foldl (fun cs (x : Value × Nat) => cs.setIfInBounds (i * sz + x.2) x.1) arr).toList = splice (i * sz) (a.eval x).cells.toList arr.toList := by
                rw [← Array.foldl_toList, Array.toList_zipIdx]
                simpa using hfold
              have hsize' : ((a.eval x).cells.zipIdx.foldl (fun cs (x : Value × Nat) => cs.setIfInBounds (i * sz + x.2) x.1) arr).size = arr.size := by
                rw [← Array.length_toList, hfold', splice_length (by simp; omega)]
                simp
              obtain ⟨arr', xs, h1, h2, h3, h4⟩ := fill_rows hp (parts := q) (k := i + 1) ((a.eval x).cells.zipIdx.foldl (fun cs (x : Value × Nat) => cs.setIfInBounds (i * sz + x.2) x.1) arr) hes (by rw [hsize']; simpa [Nat.add_assoc, Nat.add_comm 1] using hl)
              refine ⟨arr', (a.eval x).cells.toList ++ xs, ?_, ?_, ?_, by simp [h4]⟩
              · simp only [List.map_cons, Instr.fill]
                rw [if_neg (by simp; omega)]
                exact h1
              · rw [h2, hfold']
                have e1 : (i + 1) * sz = i * sz + (a.eval x).cells.toList.length := by rw [Nat.succ_mul]; simp [hsz]
                rw [e1]
                refine splice_splice ?_
                have h5 := h3.1
                have : i * sz + sz + es'.length * sz ≤ arr.size := by
                  refine Nat.le_trans (Nat.le_of_eq ?_) hl
                  rw [h4]
                  simp [Nat.add_mul, Nat.add_assoc, Nat.add_comm sz]
                simp [hsz, h5]; omega
              · refine ⟨by simp [h3.1, hsz, Nat.succ_mul]; omega, fun j cs' hj => ?_⟩
                cases j with
                | zero =>
                  simp at hj; subst hj
                  refine ⟨hlen, fun m y hy => ?_⟩
                  obtain ⟨w, h6, h7⟩ := All2.get hd' hy
                  refine ⟨w, ?_, h7⟩
                  have hm : m < (a.eval x).cells.toList.length := (List.getElem?_eq_some_iff.1 h6).1
                  simp only [Nat.zero_mul, Nat.zero_add]
                  rw [List.getElem?_append_left hm]; exact h6
                | succ j =>
                  simp at hj
                  refine ⟨(h3.2 j cs' hj).1, fun m y hy => ?_⟩
                  obtain ⟨w, h6, h7⟩ := (h3.2 j cs' hj).2 m y hy
                  refine ⟨w, ?_, h7⟩
                  rw [Nat.succ_mul, List.getElem?_append_right (by simp [hsz]; omega)]
                  have : j * sz + sz + m - (a.eval x).cells.toList.length = j * sz + m := by simp [hsz]; omega
                  rw [this]; exact h6
            · simp at h
        · simp at h
      · simp at h
    · simp at h

/-- A slice literal. -/
theorem tl_buildSlice (hT : TabOK P T) {t e d n len : Nat} {parts : Array (Nat × Operand)} {es : List (List D)} (ho : o.op = .buildSlice t len parts) (hd : o.dst = some d) (hz : Nat.blt d r.sz = true) (hk : (T t).kd = .slice e) (he : (T e).kd.known = true)
    (hr : rowGo r (T e).size parts.toList 0 = some es) (hlen : lenL parts.toList len = true) (hsm : (Nat.ble (len * (T e).size) 16777216 && Nat.blt 0 (len * (T e).size) && Nat.ble (len * (T e).bytes) room && Nat.ble len 16777216) = true) : Tl P o (recNew r d (.orow n) n (.row e es) []) := by
  refine tl_new hd hz fun X ρ M s a W g _ _ => ?_
  have ht := hT e he
  obtain ⟨i, zv, hi, hsz, hby, hzv, hzd⟩ := ht.info
  simp only [Bool.and_eq_true] at hsm
  obtain ⟨⟨⟨h1, h2⟩, h3⟩, h4⟩ := hsm
  have h1 := Nat.le_of_ble_eq_true h1
  have h2 := blt_lt h2
  have h3 := Nat.le_of_ble_eq_true h3
  have h4 := Nat.le_of_ble_eq_true h4
  have hl := lenL_eq hlen
  obtain ⟨arr', xs, hf, hto, hrep, hle⟩ := fill_rows g ((Array.range (len * i.size)).map (zv.cells[· % zv.cells.size]!)) hr (by simp [hsz, hl])
  have hxs : arr'.toList = xs := by
    rw [hto]
    have h5 := hrep.1
    unfold splice
    rw [List.drop_of_length_le (by simp [h5, hle, hsz]; rw [← hl]; simp)]
    simp
  have hrun := run_buildSlice (P := P) W t e len (parts.map fun (i, x) => (i, a.eval x)) arr' i zv (kd_slice hT hk) hi hzv (by rw [hsz]; omega) (by rw [hsz]; omega) (by simpa [hsz] using hf)
  have hel : es.length = len := by rw [hle, hl]
  refine ⟨.slice (some ⟨W.heap.size, 0, none⟩) len len, W.alloc (.cells arr' e), ?_, rfl, rfl, rfl, by simp, fun j hj _ => ?_, .slice (some ⟨W.heap.size, 0, none⟩) len len, fun k hk => .inl (by simp [gOf] at hk; omega), fun ρ' _ hn => ⟨⟨_, xs, hn, ?_, ?_, ?_⟩, ⟨hn, _, _, _, rfl⟩⟩⟩
  · simp only [execOp, ho, Sem.run_bind, hrun, Result.andThen_ok, Sem.run_pure]
  · exact heap_alloc_old W _ hj
  · refine ⟨by rw [hrep.1, ht.size], .inr ⟨W.heap.size, len, arr', by rw [hel], Nat.zero_le _, heap_alloc_new W _, by omega, by simp only [maxLen]; omega, ?_, ?_⟩⟩
    · rw [← Array.length_toList, hxs, hrep.1, hel, ht.size]
    · rw [hxs]
      exact List.take_of_length_le (by rw [hrep.1, ht.size]; exact Nat.le_refl _)
  · rw [ht.size]; exact hrep
  · rw [hel, ht.bytes]; exact h3

end Go.Cel

set_option linter.unusedVariables false
set_option linter.unusedSimpArgs false
namespace Go.Cel
variable {P : Program} {T : Nat → Ty} {X : CtxD} {ρ : Rho} {M : Imm} {r s s' : St} {a : Act} {W : World} {p : Path} {o : Oper} {v : A}

/-- What append is handed to lay behind: data, or a row of one's own. -/
def srcOf (r : St) (e : Nat) (x : Operand) : Option (List (List D)) :=
  match ev r [] x with
  | some (.b (.l (.d (.seq _ es)))) => some es
  | some (.b (.l (.d .nilsl))) => some []
  | some (.b (.l (.orow id))) => match look id r.own with
    | some (.row _ es) => some es
    | _ => none
  | _ => none
/-- What append is handed to grow: nil, or a row of one's own. -/
def dstOf (r : St) (e : Nat) (x : Operand) : Option (List (List D) × List Nat) :=
  match ev r [] x with
  | some (.b (.l (.d .nilsl))) => some ([], [])
  | some (.b (.l (.orow id))) => match look id r.own with
    | some (.row t es) => bif Nat.beq t e then some (es, [id]) else none
    | _ => none
  | _ => none
/-- the element's type of what is laid behind. -/
def srcTy (r : St) (e : Nat) (x : Operand) : Bool :=
  match ev r [] x with
  | some (.b (.l (.d (.seq t _)))) => Nat.beq t e
  | some (.b (.l (.d .nilsl))) => true
  | some (.b (.l (.orow id))) => match look id r.own with
    | some (.row t _) => Nat.beq t e
    | _ => false
  | _ => false

/-- The cells of a row, one behind the other. -/
theorem rowRep_seq {e : Nat} {sz : Nat} {es : List (List D)} {ad : Addr} {f : Nat → Nat → Value} (hsz : ∀ (i : Nat) (cs : List D), es[i]? = some cs → cs.length = sz)
    (hcell : ∀ (i : Nat) (cs : List D) (j : Nat) (x : D), es[i]? = some cs → cs[j]? = some x → M.cell (ad.add (i * sz + j)) = some (f i j))
    (hden : ∀ (i : Nat) (cs : List D) (j : Nat) (x : D), es[i]? = some cs → cs[j]? = some x → DenD P M x (f i j)) :
    ∃ xs, RowRep P M sz es xs ∧ ∀ j u, xs[j]? = some u → M.cell (ad.add j) = some u := by
  refine ⟨(List.range (es.length * sz)).map fun j => f (j / sz) (j % sz), ⟨by simp, fun i cs hi => ⟨hsz i cs hi, fun j x hj => ?_⟩⟩, fun j u hu => ?_⟩
  · have hlt : i < es.length := (List.getElem?_eq_some_iff.1 hi).1
    have hj' : j < sz := by have := (List.getElem?_eq_some_iff.1 hj).1; rw [hsz i cs hi] at this; exact this
    have hlt2 : i * sz + j < es.length * sz := by
      have : (i + 1) * sz ≤ es.length * sz := Nat.mul_le_mul_right _ hlt
      rw [Nat.succ_mul] at this; omega
    have e1 : (i * sz + j) / sz = i := by
      rw [Nat.mul_comm, Nat.mul_add_div (by omega), Nat.div_eq_of_lt hj']; omega
    have e2 : (i * sz + j) % sz = j := by
      rw [Nat.mul_comm, Nat.mul_add_mod, Nat.mod_eq_of_lt hj']
    refine ⟨f i j, by simp [hlt2, e1, e2], hden i cs j x hi hj⟩
  · simp only [List.getElem?_map, Option.map_eq_some_iff] at hu
    obtain ⟨k, hk, rfl⟩ := hu
    have hjl : j < es.length * sz := by
      rcases Nat.lt_or_ge j (es.length * sz) with h | h
      · exact h
      · rw [List.getElem?_eq_none (by simpa using h)] at hk; cases hk
    have hkj : k = j := by
      have : (List.range (es.length * sz))[j]? = some j := by simp [hjl]
      rw [this] at hk; cases hk; rfl
    subst hkj
    have hpos : 0 < sz := by
      rcases Nat.eq_zero_or_pos sz with h | h
      · subst h; simp at hjl
      · exact h
    have h1 : k / sz < es.length := by rw [Nat.div_lt_iff_lt_mul hpos]; exact hjl
    have hi : es[k / sz]? = some (es[k / sz]'h1) := List.getElem?_eq_getElem h1
    have h2 : k % sz < (es[k / sz]'h1).length := by rw [hsz _ _ hi]; exact Nat.mod_lt _ hpos
    have hj : (es[k / sz]'h1)[k % sz]? = some ((es[k / sz]'h1)[k % sz]'h2) := List.getElem?_eq_getElem h2
    have := hcell _ _ _ _ hi hj
    rw [Nat.mul_comm, Nat.div_add_mod] at this
    exact this

theorem RowRep.app {sz : Nat} {es fs : List (List D)} {xs ys : List Value} (h : RowRep P M sz es xs) (h' : RowRep P M sz fs ys) : RowRep P M sz (es ++ fs) (xs ++ ys) := by
  refine ⟨by simp [h.1, h'.1, Nat.add_mul], fun i cs hi => ?_⟩
  rcases Nat.lt_or_ge i es.length with hlt | hge
  · rw [List.getElem?_append_left hlt] at hi
    refine ⟨(h.2 i cs hi).1, fun j x hj => ?_⟩
    obtain ⟨u, h1, h2⟩ := (h.2 i cs hi).2 j x hj
    exact ⟨u, by rw [List.getElem?_append_left (List.getElem?_eq_some_iff.1 h1).1]; exact h1, h2⟩
  · rw [List.getElem?_append_right hge] at hi
    refine ⟨(h'.2 _ cs hi).1, fun j x hj => ?_⟩
    obtain ⟨u, h1, h2⟩ := (h'.2 _ cs hi).2 j x hj
    refine ⟨u, ?_, h2⟩
    have : i * sz = es.length * sz + (i - es.length) * sz := by rw [← Nat.add_mul]; congr 1; omega
    rw [List.getElem?_append_right (by rw [h.1]; omega), h.1]
    have e : i * sz + j - es.length * sz = (i - es.length) * sz + j := by omega
    rw [e]; exact h1

/-- every cell of a row is told. -/
theorem RowRep.one {sz : Nat} {es : List (List D)} {xs : List Value} (h : RowRep P M sz es xs) : ∀ u ∈ xs, u.oneCell' = true := by
  intro u hu
  obtain ⟨j, hj, rfl⟩ := List.getElem_of_mem hu
  have hjl : j < es.length * sz := by rw [← h.1]; exact hj
  have hpos : 0 < sz := by
    rcases Nat.eq_zero_or_pos sz with h0 | h0
    · subst h0; simp at hjl
    · exact h0
  have h1 : j / sz < es.length := by rw [Nat.div_lt_iff_lt_mul hpos]; exact hjl
  have hi : es[j / sz]? = some (es[j / sz]'h1) := List.getElem?_eq_getElem h1
  have h2 : j % sz < (es[j / sz]'h1).length := by rw [(h.2 _ _ hi).1]; exact Nat.mod_lt _ hpos
  obtain ⟨w, h3, h4⟩ := (h.2 _ _ hi).2 (j % sz) _ (List.getElem?_eq_getElem h2)
  rw [Nat.mul_comm, Nat.div_add_mod, List.getElem?_eq_getElem hj] at h3
  simp at h3; rw [h3]; exact DenD.one h4

theorem src_den (g : Gam P X ρ M r a W) (hT : TabOK P T) {e : Nat} (he : (T e).kd.known = true) {x : Operand} {fs : List (List D)} (h : srcOf r e x = some fs) (ht : srcTy r e x = true) :
    ∃ A c ys, a.eval x = .slice A fs.length c ∧ RowRep P M (T e).size fs ys ∧ (fs ≠ [] → ∃ ad, A = some ad ∧ ∀ j u, ys[j]? = some u → W.cell? (ad.add j) = some u) := by
  have hsz := (hT e he).size
  unfold srcOf at h
  unfold srcTy at ht
  split at h
  · rename_i t es hx
    simp at h; subst h
    rw [hx] at ht
    have := Nat.eq_of_beq_eq_true ht
    subst this
    have hd := den_inv (ev_den hx g (holds_nil _))
    generalize hxe : a.eval x = xv at hd
    cases hd with
    | seq0 _ A c => exact ⟨A, c, [], rfl, ⟨by simp, by simp⟩, fun h => absurd rfl h⟩
    | seq _ _ ad c f hc hcm hb hs hcell hden =>
      rw [hsz] at hs hcell
      obtain ⟨ys, h1, h2⟩ := rowRep_seq (e := t) hs hcell hden
      exact ⟨some ad, c, ys, rfl, h1, fun _ => ⟨ad, rfl, fun j u hu => Imm.cell_world g.imm (h2 j u hu)⟩⟩
  · rename_i hx
    simp at h; subst h
    have hd := den_inv (ev_den hx g (holds_nil _))
    generalize hxe : a.eval x = xv at hd
    cases hd
    exact ⟨none, 0, [], rfl, ⟨by simp, by simp⟩, fun h => absurd rfl h⟩
  · rename_i id hx
    rw [hx] at ht
    split at h
    · rename_i t es hl
      simp at h; subst h
      simp only [hl] at ht
      have := Nat.eq_of_beq_eq_true ht
      subst this
      obtain ⟨hr, A, m, c, hxe⟩ := ev_den hx g (holds_nil _)
      obtain ⟨u, xs, hu, how, hrep, _⟩ := g.own _ _ (look_mem hl)
      rw [hr] at hu; simp at hu; subst hu
      rw [hsz] at how hrep
      rcases how.2 with ⟨h2, h3⟩ | ⟨b, cap, cur, h2, _, hh, hcap, hmax, hcur, htake⟩
      · refine ⟨none, 0, xs, by rw [h2, h3], hrep, fun hne => absurd (List.eq_nil_of_length_eq_zero h3) hne⟩
      · exact ⟨some ⟨b, 0, none⟩, cap, xs, h2, hrep, fun _ => ⟨_, rfl, how.cells (g := b) (by rw [h2]; rfl)⟩⟩
    · simp at h
  · simp at h

/-- APPEND onto a row of one's own, or onto nil. -/
theorem tl_append (hT : TabOK P T) {t e d n : Nat} {x y : Operand} {ds fs : List (List D)} {del : List Nat} {args : Array Operand} {ts : Array TypeId} (ho : o.op = .call { callee := .builtin .append, args := args, argTypes := ts }) (hargs : args = #[x, y]) (hts : ts = #[t, t]) (hd : o.dst = some d) (hz : Nat.blt d r.sz = true) (hk : (T t).kd = .slice e) (he : (T e).kd.known = true)
    (hpos : (Nat.blt 0 (T e).size && lenL (T e).zero (T e).size) = true) (hx : dstOf r e x = some (ds, del)) (hy : srcOf r e y = some fs) (hyt : srcTy r e y = true) (hb : (ds.length + fs.length) * (T e).bytes ≤ room) (hm : ds.length + fs.length ≤ maxLen) : Tl P o (recNew r d (.orow n) n (.row e (ds ++ fs)) del) := by
  refine tl_new hd hz fun X ρ M s a W g gs hsub => ?_
  have ht := hT e he
  obtain ⟨i, zv, hi, hsz, hby, hzv, hzd⟩ := ht.info
  simp only [Bool.and_eq_true] at hpos
  have hp0 := blt_lt hpos.1
  have hzl : zv.cells.size = (T e).size := by have := All2.length (hzd M); rw [lenL_eq hpos.2] at this; simpa using this.symm
  obtain ⟨A, c, ys, hye, hyr, hyc⟩ := src_den g hT he hy hyt
  have hxd : ∃ xv xs, a.eval x = xv ∧ W.ownsRow 0 e (T e).size xv ds.length xs ∧ RowRep P M (T e).size ds xs ∧ (∀ k, xv.ownBlock = some k → ∃ id b, (id, b) ∈ r.own ∧ id ∈ del ∧ ρ id = some xv ∧ gOf xv = some k) := by
    unfold dstOf at hx
    split at hx
    · rename_i hx'
      simp at hx
      obtain ⟨rfl, rfl⟩ := hx
      have hd := den_inv (ev_den hx' g (holds_nil _))
      generalize hxe : a.eval x = xv at hd
      cases hd
      exact ⟨_, [], rfl, World.ownsRow_nil W 0 e _, ⟨by simp, by simp⟩, fun k hk => by simp [Value.ownBlock] at hk⟩
    · rename_i id hx'
      split at hx
      · rename_i t' es hl
        cases hbq : Nat.beq t' e with
        | false => simp [hbq] at hx
        | true =>
          simp [hbq] at hx
          obtain ⟨rfl, rfl⟩ := hx
          have := Nat.eq_of_beq_eq_true hbq
          subst this
          obtain ⟨hr, A, m, c, hxe⟩ := ev_den hx' g (holds_nil _)
          obtain ⟨u, xs, hu, how, hrep, _⟩ := g.own _ _ (look_mem hl)
          rw [hr] at hu; simp at hu; subst hu
          rw [ht.size] at how hrep
          refine ⟨_, xs, rfl, how, hrep, fun k hk => ⟨id, _, look_mem hl, by simp, hr, ?_⟩⟩
          rw [hxe] at hk ⊢
          cases A with
          | none => simp [Value.ownBlock] at hk
          | some ad => simpa [Value.ownBlock, gOf] using hk
      · simp at hx
    · simp at hx
  obtain ⟨xv, xs, hxe, hown, hxr, hblk⟩ := hxd
  have main : ∃ v' w', (Builtin.append_ #[t, t] o.type #[xv, .slice A fs.length c]).run P W = .ok v' w' ∧ w'.ownsRow 0 e (T e).size v' (ds.length + fs.length) (xs ++ ys) ∧ W.grownBy w' xv.ownBlock ∧ (v'.ownBlock = xv.ownBlock ∨ v'.ownBlock = some W.heap.size) := by
    by_cases hfs : fs = []
    · subst hfs
      have hys : ys = [] := List.eq_nil_of_length_eq_zero (by simpa using hyr.1)
      subst hys
      refine ⟨xv, W, ?_, by simpa using hown, ⟨rfl, rfl, rfl, Nat.le_refl _, fun _ _ _ => rfl⟩, .inl rfl⟩
      rcases hown.2 with ⟨h2, h3⟩ | ⟨b, cap, cur, h2, _, hh, hcap, hmax, hcur, htake⟩
      · subst h2
        cases A <;> simp [Builtin.append_, run_underlying (kd_slice hT hk), sizeOf, typeInfo, hi, Builtin.lenOf, Builtin.firstCells, loadCells, loadCellsFrom]
      · subst h2
        cases A <;> simp [Builtin.append_, run_underlying (kd_slice hT hk), sizeOf, typeInfo, hi, Builtin.lenOf, Builtin.firstCells, loadCells, loadCellsFrom, hcap, storeCells]
    · obtain ⟨ad, rfl, hc⟩ := hyc hfs
      obtain ⟨v', w', h1, h2, h3, _, h5⟩ := run_append_own_at (P := P) W 0 t o.type e i zv (T e).size (T e).bytes (kd_slice hT hk) hi hzv hsz hby hzl hp0 xv ds.length xs hown ad fs.length c ys hyr.1 hc hyr.one hm hb (Nat.zero_le _)
      exact ⟨v', w', h1, h2, h3, h5⟩
  obtain ⟨v', w', h1, h2, h3, h5⟩ := main
  have hgo : ∀ v : Value, (∃ A n c, v = .slice A n c) → gOf v = v.ownBlock := by
    rintro v ⟨A, n, c, rfl⟩
    cases A <;> simp [gOf, Value.ownBlock]
  have hv' : ∃ A n c, v' = .slice A n c := by
    rcases h2.2 with ⟨h, _⟩ | ⟨_, _, _, h, _⟩ <;> exact ⟨_, _, _, h⟩
  have hxv : ∃ A n c, xv = .slice A n c := by
    rcases hown.2 with ⟨h, _⟩ | ⟨_, _, _, h, _⟩ <;> exact ⟨_, _, _, h⟩
  obtain ⟨g1, g2, g3, g4, g5⟩ := h3
  refine ⟨v', w', ?_, g1, g2, g3, g4, fun j hj hno => g5 j hj fun e' => ?_, v', fun k hk' => ?_, fun ρ' _ hn => ⟨⟨v', xs ++ ys, hn, ?_, ?_, ?_⟩, ⟨hn, hv'⟩⟩⟩
  · subst hargs hts
    simp [execOp, ho, resolve, invoke, builtin, hxe, hye, h1]
  · obtain ⟨id, b, q1, q2, q3, q4⟩ := hblk j e'.symm
    exact hno id b xv (hsub.own _ _ q1) q2 q3 q4
  · rw [hgo v' hv'] at hk'
    rcases h5 with h5 | h5
    · rw [h5] at hk'
      obtain ⟨id, b, q1, q2, q3, q4⟩ := hblk k hk'
      exact .inr ⟨id, b, xv, hsub.own _ _ q1, q2, q3, q4⟩
    · rw [h5] at hk'; simp at hk'; exact .inl (by omega)
  · rw [ht.size]; simpa using h2
  · rw [ht.size]; exact hxr.app hyr
  · rw [ht.bytes]; simpa using hb

end Go.Cel

set_option linter.unusedVariables false
set_option linter.unusedSimpArgs false
namespace Go.Cel
variable {P : Program} {T : Nat → Ty} {X : CtxD} {ρ : Rho} {M : Imm} {r s s' : St} {a : Act} {W : World} {p : Path} {o : Oper} {v : A}

/-- a block of one's own, turned. -/
def recTurn (r : St) (id : Nat) (b : Blk) : Rec := ⟨r, [], [], [id], [(id, b)], []⟩

theorem tl_turn {id : Nat} {b b' : Blk} (hd : o.dst = none) (hl : look id r.own = some b)
    (h : ∀ X ρ M a W, Gam P X ρ M r a W → ∃ u k W', ρ id = some u ∧ gOf u = some k ∧ (execOp a.eval o).run P W = .ok .skip W' ∧ W'.os = W.os ∧ W'.tape = W.tape ∧ W'.output = W.output ∧ W'.heap.size = W.heap.size ∧
      (∀ j, j ≠ k → W'.heap[j]? = W.heap[j]?) ∧ BlkOK P ρ M W' id b') : Tl P o (recTurn r id b') := by
  intro X ρ M s a W K Q g hs hf hps hK
  obtain ⟨u, k, W', h1, h2, h3, h4, h5, h6, h7, h8, h9⟩ := h X ρ M a W (g.sub hs)
  have g1 := g.turn (hs.own _ _ (look_mem hl)) h1 h2 h4 h5 h6 h7 h8 h9 (O := (id, b') :: remP [id] s.own) fun i c hic => by
    rcases List.mem_cons.1 hic with e | hic
    · cases e; exact .inl ⟨rfl, rfl⟩
    · have := remP_mem.1 hic
      exact .inr ⟨by simpa using this.2, this.1⟩
  unfold Oper.wp
  rw [h3]
  refine hK ρ M _ W' (fun n hn _ => hn) ?_
  rw [apply_eq, hd]
  exact g1

theorem tl_store (hT : TabOK P T) {t id off : Nat} {x y : Operand} {u : A} {x0 : L} {new cs cs' : List L} {bt : TypeId} (ho : o.op = .store t x y) (hd : o.dst = none) (hkn : (T t).kd.known = true)
    (hx : ev r [] x = some (.b (.l (.ptr id off)))) (hy : ev r [] y = some u) (hl : look id r.own = some (.cells cs bt)) (hc : cellsA u = some (x0 :: new)) (hln : lenL (x0 :: new) (T t).size = true) (hw : writeGo off (x0 :: new) cs [] some = some cs') : Tl P o (recTurn r id (.cells cs' bt)) := by
  refine tl_turn hd hl fun X ρ M a W g => ?_
  have ht := hT t hkn
  obtain ⟨hb, h2⟩ := writeGo_some hw
  obtain ⟨gb, h1, hxe⟩ := ev_den hx g (holds_nil _)
  obtain ⟨gb', vs, h1', hh, hall⟩ := own_cells g hl
  rw [h1] at h1'; simp at h1'; subst h1'
  have hdn := cellsA_den hc (ev_den hy g (holds_nil _))
  have hlen := lenL_eq hln
  have hsz : (a.eval y).cells.size = (T t).size := by
    have := All2.length hdn; rw [hlen] at this; simpa using this.symm
  have hfit : off + 0 + (a.eval y).cells.toList.length ≤ vs.toArray.size := by
    have h4 := All2.length hall
    have h5 := All2.length hdn
    rcases hb with hb | hb
    · simp at hb h5 h4 hlen ⊢; omega
    · cases hb
  have hst := run_storeCells_at P gb off bt (a.eval y).cells.toList 0 vs.toArray W hh hfit (All2.one hdn)
  have hrun : (execOp a.eval o).run P W = .ok .skip (W.setRow gb (splice off (a.eval y).cells.toList vs).toArray) := by
    have : splice off (a.eval y).cells.toList vs = vs.take off ++ ((a.eval y).cells.toList ++ vs.drop (off + (a.eval y).cells.size)) := by simp [splice]
    simp [execOp, ho, hxe, Instr.storeAt, Instr.sureAddr, storeVar, ht.run_size, hsz, hst, this]
  refine ⟨_, gb, _, h1, rfl, hrun, rfl, rfl, rfl, by simp [World.setRow], fun j hj => setRow_other W gb j _ hj, gb, _, h1, setRow_heap W gb _ _ _ _ hh, ?_⟩
  simp at h2
  rw [← h2]
  exact All2.splice off hdn hall

theorem RowRep.set {sz : Nat} {es : List (List D)} {xs : List Value} (h : RowRep P M sz es xs) {n off : Nat} {cs new : List D} {news : List Value} (hn : es[n]? = some cs) (hnew : All2 (DenD P M) new news) (hfit : off + new.length ≤ sz) :
    RowRep P M sz (es.set n (splice off new cs)) (splice (n * sz + off) news xs) := by
  have hlt : n < es.length := (List.getElem?_eq_some_iff.1 hn).1
  have hcs := (h.2 n cs hn).1
  have hnl := All2.length hnew
  have hle : n * sz + sz ≤ xs.length := by
    rw [h.1, ← Nat.succ_mul]; exact Nat.mul_le_mul_right _ hlt
  refine ⟨by rw [splice_length (by omega), h.1]; simp, fun i ds hi => ?_⟩
  have get : ∀ k, (splice (n * sz + off) news xs)[k]? = if k < n * sz + off then xs[k]? else if k < n * sz + off + news.length then news[k - (n * sz + off)]? else xs[k]? := by
    intro k
    unfold splice
    rw [List.getElem?_append, List.getElem?_append, List.length_take, List.getElem?_take, List.getElem?_drop]
    have : min (n * sz + off) xs.length = n * sz + off := by omega
    rw [this]
    by_cases h1 : k < n * sz + off
    · simp [h1]
    · simp only [h1, if_false]
      by_cases h2 : k < n * sz + off + news.length
      · rw [if_pos (by omega), if_pos h2]
      · rw [if_neg (by omega), if_neg h2]
        congr 1; omega
  have getc : ∀ k, (splice off new cs)[k]? = if k < off then cs[k]? else if k < off + new.length then new[k - off]? else cs[k]? := by
    intro k
    unfold splice
    rw [List.getElem?_append, List.getElem?_append, List.length_take, List.getElem?_take, List.getElem?_drop]
    have : min off cs.length = off := by omega
    rw [this]
    by_cases h1 : k < off
    · simp [h1]
    · simp only [h1, if_false]
      by_cases h2 : k < off + new.length
      · rw [if_pos (by omega), if_pos h2]
      · rw [if_neg (by omega), if_neg h2]
        congr 1; omega
  by_cases hin : i = n
  · subst hin
    have hds : ds = splice off new cs := by
      rw [List.getElem?_set_self hlt] at hi; simpa using hi.symm
    subst hds
    refine ⟨by rw [splice_length (by omega), hcs], fun j x hj => ?_⟩
    rw [getc] at hj
    rw [get]
    by_cases h1 : j < off
    · simp only [h1, if_true] at hj
      rw [if_pos (by omega)]
      exact (h.2 i cs hn).2 j x hj
    · simp only [h1, if_false] at hj
      rw [if_neg (by omega)]
      by_cases h2 : j < off + new.length
      · simp only [h2, if_true] at hj
        rw [if_pos (by omega)]
        obtain ⟨w, h3, h4⟩ := All2.get hnew hj
        refine ⟨w, ?_, h4⟩
        rw [← h3]; congr 1; omega
      · simp only [h2, if_false] at hj
        rw [if_neg (by omega)]
        exact (h.2 i cs hn).2 j x hj
  · rw [List.getElem?_set_ne (Ne.symm hin)] at hi
    refine ⟨(h.2 i ds hi).1, fun j x hj => ?_⟩
    obtain ⟨w, h3, h4⟩ := (h.2 i ds hi).2 j x hj
    refine ⟨w, ?_, h4⟩
    have hj' : j < sz := by have := (List.getElem?_eq_some_iff.1 hj).1; rw [(h.2 i ds hi).1] at this; exact this
    rw [get]
    rcases Nat.lt_or_gt_of_ne hin with hlt' | hgt
    · have : (i + 1) * sz ≤ n * sz := Nat.mul_le_mul_right _ hlt'
      rw [Nat.succ_mul] at this
      rw [if_pos (by omega)]; exact h3
    · have : (n + 1) * sz ≤ i * sz := Nat.mul_le_mul_right _ hgt
      rw [Nat.succ_mul] at this
      rw [if_neg (by omega), if_neg (by omega)]; exact h3

/-- A store into an element of a row of one's own. -/
theorem tl_storeRow (hT : TabOK P T) {t e id n off sz : Nat} {x y : Operand} {u : A} {new : List L} {ds : List D} {es : List (List D)} {cs : List D} (ho : o.op = .store t x y) (hd : o.dst = none) (hkn : (T t).kd.known = true) (he : (T e).kd.known = true)
    (hx : ev r [] x = some (.b (.l (.optr id n off sz)))) (hy : ev r [] y = some u) (hl : look id r.own = some (.row e es)) (hc : cellsA u = some new) (hds : allDs new = some ds) (hln : lenL ds (T t).size = true)
    (hsz : (Nat.beq sz (T e).size && Nat.ble (off + (T t).size) sz) = true) (hcs : es[n]? = some cs) : Tl P o (recTurn r id (.row e (es.set n (splice off ds cs)))) := by
  refine tl_turn hd hl fun X ρ M a W g => ?_
  simp only [Bool.and_eq_true] at hsz
  have hs := Nat.eq_of_beq_eq_true hsz.1
  have hfit := Nat.le_of_ble_eq_true hsz.2
  have ht := hT t hkn
  have hsize := (hT e he).size
  obtain ⟨b, m, c, hr, hxe⟩ := ev_den hx g (holds_nil _)
  obtain ⟨u', xs, hu, how, hrep, hby⟩ := g.own _ _ (look_mem hl)
  rw [hr] at hu; simp at hu; subst hu
  have hlt : n < es.length := (List.getElem?_eq_some_iff.1 hcs).1
  have hdn := cellsA_den hc (ev_den hy g (holds_nil _))
  rw [allDs_eq hds] at hdn
  have hdn' := All2_undD hdn
  have hlen := lenL_eq hln
  have hcz : (a.eval y).cells.size = (T t).size := by
    have := All2.length hdn'; rw [hlen] at this; simpa using this.symm
  rcases how.2 with ⟨h2, h3⟩ | ⟨b', cap, cur, h2, h0, hh, hcap, hmax, hcur, htake⟩
  · simp at h2
  · simp at h2
    obtain ⟨rfl, rfl, rfl⟩ := h2
    rw [hsize] at hrep hcur htake
    have hle : n * (T e).size + (T e).size ≤ es.length * (T e).size := by
      rw [← Nat.succ_mul]; exact Nat.mul_le_mul_right _ hlt
    have hle2 : es.length * (T e).size ≤ c * (T e).size := Nat.mul_le_mul_right _ hcap
    have hst := run_storeCells_at P b (n * sz + off) e (a.eval y).cells.toList 0 cur W hh (by simp [hcz, hcur, hs]; omega) (All2.one hdn)
    have hrun : (execOp a.eval o).run P W = .ok .skip (W.setRow b (splice (n * sz + off) (a.eval y).cells.toList cur.toList).toArray) := by
      simp [execOp, ho, hxe, Instr.storeAt, Instr.sureAddr, storeVar, ht.run_size, hcz, hst, splice]
    refine ⟨_, b, _, hr, rfl, hrun, rfl, rfl, rfl, by simp [World.setRow], fun j hj => setRow_other W b j _ hj, _, splice (n * sz + off) (a.eval y).cells.toList xs, hr, ⟨?_, .inr ⟨b, c, _, by simp, h0, setRow_heap W b _ _ _ _ hh, by simpa using hcap, hmax, ?_, ?_⟩⟩, ?_, ?_⟩
    · rw [splice_length (by simp [hcz, hrep.1, hs]; omega), hrep.1, hsize]; simp
    · rw [hsize]; simp only [List.size_toArray]
      rw [splice_length (by simp [hcz, hcur, hs]; omega)]; simpa using hcur
    · rw [hsize, ← htake]
      simp only [List.length_set]
      unfold splice
      rw [List.take_append, List.take_append, List.take_take, List.drop_take]
      have e1 : min (es.length * (T e).size) (n * sz + off) = n * sz + off := by rw [hs]; rw [hs] at hfit; omega
      have e2 : min (n * sz + off) (es.length * (T e).size) = n * sz + off := by rw [Nat.min_comm]; exact e1
      have e3 : (cur.toList.take (n * sz + off)).length = n * sz + off := by simp [hcur, hs]; rw [hs] at hfit; omega
      rw [e1, e3, List.take_take, e2]
      have e4 : (a.eval y).cells.toList.take (es.length * (T e).size - (n * sz + off)) = (a.eval y).cells.toList := List.take_of_length_le (by simp [hcz]; rw [hs] at hfit ⊢; omega)
      rw [e4]
      simp [hcz, Nat.sub_sub]
    · rw [hsize, hs]
      refine hrep.set hcs hdn' ?_
      rw [hlen]; rw [hs] at hfit; exact hfit
    · simpa using hby

/-- make. -/
theorem tl_make (hT : TabOK P T) {t e d n : Nat} {x y : Operand} {k1 k2 : IntKind} {z1 z2 : Int} {m : Nat} (ho : o.op = .makeSlice t x y) (hd : o.dst = some d) (hz : Nat.blt d r.sz = true) (hk : (T t).kd = .slice e) (he : (T e).kd.known = true)
    (hx : ev r [] x = some (dl (.int k1 z1))) (hy : ev r [] y = some (dl (.int k2 z2))) (hzl : lenL (T e).zero (T e).size = true) (h1 : z1 = (m : Int)) (h2 : z2 = (m : Int)) (hc : m * (T e).size ≤ 16777216) (hb : m * (T e).bytes ≤ room) (hm : m ≤ maxLen) : Tl P o (recNew r d (.orow n) n (.row e (List.replicate m (T e).zero)) []) := by
  refine tl_new hd hz fun X ρ M s a W g _ _ => ?_
  have ht := hT e he
  obtain ⟨i, zv, hi, hsz, hby, hzv, hzd⟩ := ht.info
  have hxe := den_int (ev_den hx g (holds_nil _))
  have hye := den_int (ev_den hy g (holds_nil _))
  obtain ⟨W', hrun, hown, g1, g2, g3, g4, g5⟩ := run_makeSlice_full (P := P) W 0 t e i zv (T e).size (kd_slice hT hk) hi hzv hsz k1 k2 m hc (by rw [hby, Nat.mul_comm]; simp only [room] at hb; omega) hm (Nat.zero_le _)
  have hlz := lenL_eq hzl
  have hzs : zv.cells.size = (T e).size := by have := All2.length (hzd M); rw [hlz] at this; simpa using this.symm
  refine ⟨.slice (some ⟨W.heap.size, 0, none⟩) m m, W', ?_, g1, g2, g3, g4, fun j hj _ => g5 j hj (by simp), .slice (some ⟨W.heap.size, 0, none⟩) m m, fun k hk => .inl (by simp [gOf] at hk; omega), fun ρ' _ hn => ⟨⟨_, _, hn, by rw [ht.size]; simpa using hown, ⟨by simp [size_madeCells, ht.size], fun j cs hj => ?_⟩, by rw [ht.bytes]; simpa using hb⟩, ⟨hn, _, _, _, rfl⟩⟩⟩
  · simp [execOp, ho, hxe, hye, h1, h2, hrun]
  · rw [ht.size]
    obtain ⟨hjm, rfl⟩ : j < m ∧ cs = (T e).zero := by
      rw [List.getElem?_replicate] at hj
      split at hj
      · rename_i h; simp at hj; exact ⟨h, hj.symm⟩
      · simp at hj
    refine ⟨hlz, fun q y hq => ?_⟩
    obtain ⟨w, h3, h4⟩ := All2.get (hzd M) hq
    have hq' : q < (T e).size := by have := (List.getElem?_eq_some_iff.1 hq).1; rw [hlz] at this; exact this
    have hlt : j * (T e).size + q < m * (T e).size := by
      have : (j + 1) * (T e).size ≤ m * (T e).size := Nat.mul_le_mul_right _ hjm
      rw [Nat.succ_mul] at this; omega
    refine ⟨w, ?_, h4⟩
    have e1 : (j * (T e).size + q) % (T e).size = q := by rw [Nat.mul_comm, Nat.mul_add_mod, Nat.mod_eq_of_lt hq']
    have h5 : zv.cells[q]? = some w := by simpa using h3
    simp [madeCells, hlt, hzs, e1, Array.getElem!_eq_getD, Array.getD_eq_getD_getElem?, h5]

end Go.Cel
