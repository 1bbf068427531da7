/- CelZi: a row with an element that holds a way to another row. -/
import Derived.Test.YtflmcnpfeikoeaaGreatDoorK10
set_option linter.unusedVariables false
set_option linter.unusedSimpArgs false
namespace Go.Cel
variable {P : Program} {T : Nat → Ty} {X : CtxD} {ρ : Rho} {M : Imm} {r s s' : St} {a : Act} {W : World} {p : Path} {o : Oper} {v : A}

theorem All2.toD : ∀ {ds : List D} {vs : List Value}, All2 (DenD P M) ds vs → All2 (DenL P ρ M) (ds.map L.d) vs
  | [], [], _ => trivial
  | _ :: _, _ :: _, h => ⟨h.1, All2.toD h.2⟩
  | [], _ :: _, h => h.elim
  | _ :: _, [], h => h.elim
theorem All2.ofD : ∀ {ds : List D} {vs : List Value}, All2 (DenL P ρ M) (ds.map L.d) vs → All2 (DenD P M) ds vs
  | [], [], _ => trivial
  | _ :: _, _ :: _, h => ⟨h.1, All2.ofD h.2⟩
  | [], _ :: _, h => h.elim
  | _ :: _, [], h => h.elim

theorem RowRep.toRowp {sz n : Nat} {es : List (List D)} {cs : List D} {xs : List Value} (h : RowRep P M sz es xs) (hn : es[n]? = some cs) : RowpRep P ρ M sz es n (cs.map L.d) xs := by
  have hlt := (List.getElem?_eq_some_iff.1 hn).1
  obtain ⟨hl, hc⟩ := h.2 n cs hn
  have hle : n * sz + sz ≤ es.length * sz := by rw [← Nat.succ_mul]; exact Nat.mul_le_mul_right _ hlt
  refine ⟨h.1, hlt, by simpa using hl, fun i cs' _ hi => h.2 i cs' hi, All2.toD (All2.of_get (by simp [h.1, hl]; omega) fun j x w hx hw => ?_)⟩
  obtain ⟨u, h1, h2⟩ := hc j x hx
  have hj : j < sz := by rw [← hl]; exact (List.getElem?_eq_some_iff.1 hx).1
  rw [List.getElem?_take_of_lt hj, List.getElem?_drop, h1] at hw
  cases hw; exact h2
theorem RowpRep.toRow {sz n : Nat} {es : List (List D)} {ds : List D} {xs : List Value} (h : RowpRep P ρ M sz es n (ds.map L.d) xs) : RowRep P M sz (es.set n ds) xs := by
  obtain ⟨h1, h2, h3, h4, h5⟩ := h
  refine ⟨by simpa using h1, fun i cs hi => ?_⟩
  by_cases e : n = i
  · subst e
    rw [List.getElem?_set_self h2] at hi
    cases hi
    refine ⟨by simpa using h3, fun j x hx => ?_⟩
    obtain ⟨w, h6, h7⟩ := All2.get (All2.ofD h5) hx
    have hj : j < sz := by have := (List.getElem?_eq_some_iff.1 hx).1; simp at h3; omega
    rw [List.getElem?_take_of_lt hj, List.getElem?_drop] at h6
    exact ⟨w, h6, h7⟩
  · rw [List.getElem?_set_ne e] at hi
    exact h4 i cs (Ne.symm e) hi

/-- An element's cells, one by one. -/
theorem ghost_rowp {n0 : Nat} (hT : TabOK P T) (id n : Nat) {R : List (Nat × Path × A)} {O O' : List (Nat × Blk)} {m z e : Nat} {gv : List (Nat × Path × Bool)} {asm : Path} {es : List (List D)} {cs : List D} (hl : look id O = some (.row e es)) (he : (T e).kd.known = true) (hn : es[n]? = some cs) (hO : rmOne id O = some O') :
    Ghost P n0 ⟨R, O, m, gv, asm, z⟩ ⟨R, (id, .rowp e es n (cs.map L.d)) :: O', m, gv, asm, z⟩ := by
  intro X ρ M a W hX g
  have hO' : O' = remP [id] O := by have := hO; simp only [rmOne, rmGo_eq] at this; simpa using this.symm
  subst hO'
  have hm := look_mem hl
  obtain ⟨u, xs, h1, h2, h3, h4⟩ := g.own _ _ hm
  exact ⟨ρ, M, g.reblk (b' := .rowp e es n (cs.map L.d)) hm ⟨u, xs, h1, h2, h3.toRowp hn, h4⟩ fun i c h => remP_one h⟩
theorem ghost_unrowp {n0 : Nat} (id n : Nat) {R : List (Nat × Path × A)} {O O' : List (Nat × Blk)} {m z e : Nat} {gv : List (Nat × Path × Bool)} {asm : Path} {es : List (List D)} {ds : List D} (hl : look id O = some (.rowp e es n (ds.map L.d))) (hO : rmOne id O = some O') :
    Ghost P n0 ⟨R, O, m, gv, asm, z⟩ ⟨R, (id, .row e (es.set n ds)) :: O', m, gv, asm, z⟩ := by
  intro X ρ M a W hX g
  have hO' : O' = remP [id] O := by have := hO; simp only [rmOne, rmGo_eq] at this; simpa using this.symm
  subst hO'
  have hm := look_mem hl
  obtain ⟨u, xs, h1, h2, h3, h4⟩ := g.own _ _ hm
  exact ⟨ρ, M, g.reblk (b' := .row e (es.set n ds)) hm ⟨u, xs, h1, by simpa using h2, h3.toRow, by simpa using h4⟩ fun i c h => remP_one h⟩

theorem yl_indexAddrRowp (hT : TabOK P T) {t e id m : Nat} {x i : Operand} {es : List (List D)} {ls : List L} {k : IntKind} {z : Int} {n : Nat} (ho : o.op = .indexAddr t x i) (hk : (T t).kd = .slice e) (he : (T e).kd.known = true)
    (hx : ev r p x = some (.b (.l (.orow id)))) (hi : ev r p i = some (dl (.int k z))) (hl : look id r.own = some (.rowp e es m ls)) (hp : pin r p = true) (hn : z = (n : Int)) (hlt : n < es.length) : Yl P o r p (.b (.l (.optr id n 0 (T e).size))) := by
  refine .of hp fun X ρ M a W g hh => ?_
  obtain ⟨hr, A, m, c, hxe⟩ := ev_den hx g hh
  have hz := den_int (ev_den hi g hh)
  obtain ⟨u, xs, hu, how, _⟩ := g.own _ _ (look_mem hl)
  rw [hr] at hu; simp at hu; subst hu
  rcases how.2 with ⟨h2, h3⟩ | ⟨b, cap, cur, h2, _⟩
  · omega
  · refine ⟨.pointer (some ((⟨b, 0, none⟩ : Addr).add (n * (T e).size))), ?_, ?_⟩
    · simp [execOp, ho, h2, hz, hn, Instr.indexAt, asIntOf, run_underlying (kd_slice hT hk), hlt, (hT e he).run_size]
    · exact ⟨b, _, _, by rw [hr, h2], by simp [Addr.add_lit]⟩

/-- What a cell of the element holds. -/
theorem yl_loadRowp (hT : TabOK P T) {t e id n off sz : Nat} {x : Operand} {es : List (List D)} {ls : List L} {y : L} (ho : o.op = .load t x) (hk : (T t).kd.known = true) (ha : (T t).kd.agg = false) (he : (T e).kd.known = true)
    (hx : ev r p x = some (.b (.l (.optr id n off sz)))) (hl : look id r.own = some (.rowp e es n ls)) (hsz : Nat.beq sz (T e).size = true) (hy : ls[off]? = some y) (hp : pin r p = true) : Yl P o r p (.b (.l y)) := by
  refine .of hp fun X ρ M a W g hh => ?_
  have hs := Nat.eq_of_beq_eq_true hsz
  have hsize := (hT e he).size
  obtain ⟨b, m, c, hr, hxe⟩ := ev_den hx g hh
  obtain ⟨u, xs, hu, how, hrep, hby⟩ := g.own _ _ (look_mem hl)
  rw [hr] at hu; simp at hu; subst hu
  obtain ⟨h1, h2, h3, h4, h5⟩ := hrep
  rw [hsize] at how h1 h3 h5
  obtain ⟨w, h6, h7⟩ := All2.get h5 hy
  have hoff : off < (T e).size := by have := (List.getElem?_eq_some_iff.1 hy).1; omega
  rw [List.getElem?_take_of_lt hoff, List.getElem?_drop] at h6
  have hcell := how.cells (g := b) rfl _ _ h6
  rw [Addr.add_lit, Nat.zero_add, ← hs] at hcell
  refine ⟨w, ?_, h7⟩
  have hrun := (run_load_at (W := W) (hT t hk) hk (⟨b, n * sz + off, none⟩ : Addr) [w] (fun j v hj => by
    cases j with
    | zero => simp at hj; subst hj; simpa [Addr.add] using hcell
    | succ j => simp at hj)).2 ha w rfl
  simp [execOp, ho, hxe, hrun]

/-- A store into a cell of the element. -/
theorem tl_storeRowp (hT : TabOK P T) {t e id n off sz : Nat} {x y : Operand} {u : L} {ls ls' : List L} {es : List (List D)} (ho : o.op = .store t x y) (hd : o.dst = none) (hkn : (T t).kd.known = true) (h1s : Nat.beq (T t).size 1 = true) (he : (T e).kd.known = true)
    (hx : ev r [] x = some (.b (.l (.optr id n off sz)))) (hy : ev r [] y = some (.b (.l u))) (hl : look id r.own = some (.rowp e es n ls)) (hsz : Nat.beq sz (T e).size = true) (hoff : Nat.blt off ls.length = true) (hls : ls.set off u = ls') : Tl P o (recTurn r id (.rowp e es n ls')) := by
  subst hls
  refine tl_turn hd hl fun X ρ M a W g => ?_
  have hs := Nat.eq_of_beq_eq_true hsz
  have ht := hT t hkn
  have hsize := (hT e he).size
  have hoff' := blt_lt hoff
  obtain ⟨b, m, c, hr, hxe⟩ := ev_den hx g (holds_nil _)
  obtain ⟨u', xs, hu, how, hrep, hby⟩ := g.own _ _ (look_mem hl)
  rw [hr] at hu; simp at hu; subst hu
  have hye : DenL P ρ M u (a.eval y) := ev_den hy g (holds_nil _)
  have hdn := cellsA_den (l := [u]) rfl (ev_den hy g (holds_nil _))
  obtain ⟨w, hcw, hw⟩ : ∃ w, (a.eval y).cells.toList = [w] ∧ DenL P ρ M u w := by
    cases hc : (a.eval y).cells.toList with
    | nil => rw [hc] at hdn; exact hdn.elim
    | cons w rest =>
      rw [hc] at hdn
      cases rest with
      | nil => exact ⟨w, rfl, hdn.1⟩
      | cons _ _ => exact hdn.2.elim
  have hone := DenL.one hw
  have hcz : (a.eval y).cells.size = 1 := by rw [← Array.length_toList, hcw]; rfl
  rcases how.2 with ⟨h2, h3⟩ | ⟨b', cap, cur, h2, h0, hh, hcap, hmax, hcur, htake⟩
  · simp at h2
  · simp at h2
    obtain ⟨rfl, rfl, rfl⟩ := h2
    rw [hsize] at hrep hcur htake how
    obtain ⟨q1, q2, q3, q4, q5⟩ := hrep
    have hle : n * (T e).size + (T e).size ≤ es.length * (T e).size := by
      rw [← Nat.succ_mul]; exact Nat.mul_le_mul_right _ q2
    have hle2 : es.length * (T e).size ≤ c * (T e).size := Nat.mul_le_mul_right _ hcap
    have hst := run_storeCells_at P b (n * sz + off) e [w] 0 cur W hh (by simp [hcur, hs]; omega) (fun v hv => by simp at hv; subst hv; exact hone)
    have hset : cur.toList.take (n * sz + off + 0) ++ [w] ++ cur.toList.drop (n * sz + off + 0 + [w].length) = cur.toList.set (n * sz + off) w := by
      rw [List.set_eq_take_append_cons_drop, if_pos (by simp [hcur, hs]; omega)]
      simp
    rw [hset] at hst
    have hca : (a.eval y).cells = #[w] := by rw [← hcw]
    have hrun : (execOp a.eval o).run P W = .ok .skip (W.setRow b (cur.toList.set (n * sz + off) w).toArray) := by
      have h1t := Nat.eq_of_beq_eq_true h1s
      simp [execOp, ho, hxe, Instr.storeAt, Instr.sureAddr, storeVar, ht.run_size, hca, h1t, hst]
    refine ⟨_, b, _, hr, rfl, hrun, rfl, rfl, rfl, by simp [World.setRow], fun j hj => setRow_other W b j _ hj, _, xs.set (n * sz + off) w, hr, ⟨?_, .inr ⟨b, c, _, by simp, h0, setRow_heap W b _ _ _ _ hh, by simpa using hcap, hmax, ?_, ?_⟩⟩, ?_, ?_⟩
    · rw [List.length_set, q1, hsize]
    · rw [hsize]; simpa using hcur
    · rw [hsize, ← htake]
      simp [List.take_set]
    · rw [hsize]
      refine ⟨by simpa using q1, q2, by simpa using q3, fun i cs hi hcs => ⟨(q4 i cs hi hcs).1, fun j x hx => ?_⟩, ?_⟩
      · obtain ⟨v, h3, h4⟩ := (q4 i cs hi hcs).2 j x hx
        refine ⟨v, ?_, h4⟩
        have hj : j < (T e).size := by have := (List.getElem?_eq_some_iff.1 hx).1; rw [(q4 i cs hi hcs).1] at this; exact this
        rw [List.getElem?_set_ne]
        · exact h3
        · rw [hs]
          rcases Nat.lt_or_gt_of_ne hi with h | h
          · have : (i + 1) * (T e).size ≤ n * (T e).size := Nat.mul_le_mul_right _ h
            rw [Nat.succ_mul] at this; omega
          · have : (n + 1) * (T e).size ≤ i * (T e).size := Nat.mul_le_mul_right _ h
            rw [Nat.succ_mul] at this; omega
      · rw [hs, List.drop_set, if_neg (by omega), List.take_set, show n * (T e).size + off - n * (T e).size = off by omega]
        exact All2.set hw off q5
    · simpa using hby
end Go.Cel
