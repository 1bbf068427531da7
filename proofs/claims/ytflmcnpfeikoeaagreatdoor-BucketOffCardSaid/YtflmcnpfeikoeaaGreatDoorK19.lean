/- PROVED HERE: the card of 'cellarerlaw09.BucketOff': for every input the statement returns true, and the input reads as it did. Conditions: those of the given row: the three listed package variables lie as the program's text lays them. -/
import Derived.Test.YtflmcnpfeikoeaaGreatDoorK17
import Derived.Test.YtflmcnpfeikoeaaGreatDoorK18
import Derived.Test.YtflmcnpfeikoeaaGreatDoorRows
import Derived.Test.YtflmcnpfeikoeaaGreatDoorTie
import Derived.Test.YtflmcnpfeikoeaaGreatDoorCards
import Derived.ProofKit
import Derived.LaidMore
import Derived.LaidHandle
import Derived.OpenShut
import Derived.Stop.Joined
import Derived.SevenTiedAt
set_option linter.unusedVariables false
namespace Go.Proofs.YtflmcnpfeikoeaaGreatDoor
open Go.Cel Go.ChangeShapes Go.WideShapes Go.ChangeAt Go.RowKit

theorem off_plain (l : List ActA) (h : ∀ a ∈ l, okAct a) (i : Nat) : (offRun l i).isSome = true := by
  obtain ⟨b, m, h1, _⟩ := off_all l (fun a ha => by have := (h a ha).1; have hm : IntKind.u8.min = 0 := rfl; simp [Lit.wf] at this; omega) i
  rw [h1]; rfl

theorem Tryz.ownK : ownKnob Tryz.prog.godebug = none := by kernel_rfl
theorem Tryz.laidOutT : laidOutB Tryz.prog = true := by kernel_rfl
theorem Tryz.u4 : Tryz.prog.underlying 4 = some .bool := by kernel_rfl
theorem Tryz.p7 : Tryz.f7.params.toList = [66] := by kernel_rfl
theorem below_kept {W W' : World} {may : MemPlace → Prop} (hb : Below W.heap.size W W') : W.keptBut W' may := by
  refine ⟨hb.os, hb.output, fun i hi => ?_⟩
  rw [hb.block i hi]
  cases h : W.heap[i]? with
  | none => simp
  | some o => cases o <;> simp
theorem door_met (os : Os) (args : Array Value) : laidMetH Tryz.prog Rows.bucketOffRow.laid ((World.doorLaid Tryz.prog 400 os).forCall (fun _ _ => 0) ⟨#[], args, []⟩).memory :=
  laidMetH_of_parts (laidMet_of_run' 40 (by kernel_rfl) (by kernel_rfl)) (by kernel_rfl)

set_option maxRecDepth 100000 in
theorem off_lifted (os : Os) (started : os.Started) (H : Type) (enc : TypeId × Value → H) :
    ReturnsInHanded {} Tryz.checked os 7 .any (fun w args => (Rows.bucketOffSpec.pre enc Tryz.prog Tryz.f7 [] false w args ∧ laidMetH Tryz.prog Rows.bucketOffRow.laid w) ∧ sizedMet enc Tryz.prog Tryz.f7 (OpenSpec.ofChange Rows.bucketOffSpec) false w args)
      (Rows.bucketOffSpec.post enc Tryz.prog Tryz.f7 false true false false) := by
  refine returnsInHanded_of_change_and (C := Tryz.checked) (X := fun w _ => laidMetH Tryz.prog Rows.bucketOffRow.laid w) (fun _ _ _ hh h => h.of_heap hh) Tryz.ownK started (by kernel_rfl) Tryz.func7
    (ChangeSpec.witness_shaped (enc := enc) (C := Tryz.checked) (os := os) (X := fun w _ => laidMetH Tryz.prog Rows.bucketOffRow.laid w) false (World.doorLaid Tryz.prog 400 os) #[.slice none 0 0] 8 rfl (World.shaped_of_RefB (by kernel_rfl) (by kernel_rfl)) (by kernel_rfl) (by kernel_rfl) (by kernel_rfl) (door_met os _)) ?_
  intro W base args ds gs before hval0 hW _ hwt hL _
  have hW' := hW
  obtain ⟨p, q, hA0, hV, rfl, hfz, hnd⟩ := hW
  have hA : DataW.TrodAll enc Tryz.prog W 0 (fun _ => true) true Tryz.f7.params.toList args.toList ds p := hA0
  rw [Tryz.p7] at hA
  obtain ⟨v0, d0, rfl, rfl, h0⟩ := trodAll_one hA
  obtain ⟨rfl, rfl⟩ := trodVars_none hV
  have hlt : ∀ x ∈ p, x.block < W.heap.size := fun x hx => hW'.lt x (by simpa using hx)
  have hv : v0.cells.toList = [v0] := by
    have h : Value.okWide Tryz.prog W Reach.any base 66 v0 := hval0 0 66 v0 (by rw [show Tryz.f7.params = #[66] by kernel_rfl]; rfl) rfl
    unfold Value.okWide at h
    rw [u66] at h
    simp only [Cell.okWide, u66, Cell.ok] at h
    cases v0 <;> first | rfl | (simp at h)
  obtain ⟨fuel, hfu⟩ := id h0
  have hw1 : ∀ n ∈ d0.weights Tryz.prog 66, n ≤ reachBytes := fun n hn => by
    have h1 := DataW.weights_mem_each (P := Tryz.prog) (ts := Tryz.f7.params.toList ++ Rows.bucketOffSpec.plain.varTypes Tryz.prog) (ds := [d0] ++ []) (j := 0) (t := 66) (d := d0) (by rw [Tryz.p7]; rfl) rfl n hn
    have := List.all_eq_true.1 hwt n h1
    simpa using this
  obtain ⟨l, hok, hden⟩ := opens_Acts fuel _ d0 p hfu hw1
  rw [hv] at hden
  refine (entry_calls (law_Off l (fun a ha => by have := (hok a ha).1; have hm : IntKind.u8.min = 0 := rfl; simp [Lit.wf] at this; omega) (off_plain l hok)) (vs := [v0]) ⟨hden.1, trivial⟩).mono fun e W' ⟨he, hb⟩ => ?_
  subst he
  have e1 : Rows.bucketOffSpec.fn H ([d0] ++ []) = { results := [.lit (.bool true)], args := [d0] } := rfl
  refine ⟨_, rfl, _, _, _, [], p, [], hW', ?_, ?_, ?_, below_kept hb, fun h => by cases h⟩
  · rw [e1]
    have : Tryz.f7.resultTypes = #[4] := by kernel_rfl
    rw [this]
    exact trodAll_mk1 (shut_bool Tryz.u4 true)
  · rw [e1, Tryz.p7]
    exact ⟨p, [], Below.trod Tryz.laidOutT (by kernel_rfl) (of_decide_eq_true (by kernel_rfl)) h0 hb hlt, rfl, by simp⟩
  · rw [e1]; rfl

theorem off_said : Rows.BucketOffSaid :=
  OpenClaim.holds_of_wide 7 Tryz.f7 rfl rfl rfl rfl rfl rfl rfl ⟨rfl, rfl, rfl, rfl, rfl⟩ rfl rfl rfl rfl rfl (by kernel_rfl) Tryz.func7 (by kernel_rfl)
    (of_decide_eq_true (by kernel_rfl)) (by unfold Func.isWrapper; first | (rw [if_pos (by decide +kernel)]; kernel_rfl) | (rw [if_neg (by decide +kernel)]; exact ⟨rfl, rfl⟩))
    (fun os started H enc _ => off_lifted os started H enc)

theorem off_card : Rows.BucketOffCardSaid :=
  Claim7.holds_tied_plain_at .later [] [.data, .data, .data] true (true, "3f924fd3e99d20b6ad08f43943803b65051b3e73ab7a4689db3063d4da1ed7e8") false
    off_said (fun _ h => by cases h) (by kernel_rfl) (fun _ h => by cases h) bucketOff_row_tie rfl ⟨rfl, rfl⟩ (by kernel_rfl) rfl
    (fun f fn hf hfn => by
      obtain rfl : f = 7 := Option.some.inj ((show Tryz.prog.funcNamed "cellarer/cellarerlaw09.BucketOff" = some 7 by kernel_rfl).symm.trans hf) |>.symm
      obtain rfl : fn = Tryz.f7 := (Option.some.inj (Tryz.func7.symm.trans hfn)).symm
      exact ⟨by kernel_rfl, fun j t ht => by
        rw [show Tryz.f7.params = #[66] by kernel_rfl] at ht
        have hm : t ∈ [66] := by simpa using Array.mem_of_getElem? ht
        have hall : ([66].all fun u => !Tryz.prog.wantsStandIn u) = true := by kernel_rfl
        exact (show Tryz.prog.wantsStandIn t = false by simpa using List.all_eq_true.1 hall t hm)⟩)
    (by kernel_rfl)
end Go.Proofs.YtflmcnpfeikoeaaGreatDoor
