/- The statement Rows.WoundStillUptoSaid, out of the walk of its law: for every input that the row speaks of the call returns true, and the input reads as it did. No further condition. -/
import Derived.Test.YtepnillddlemaaaRows
import Derived.Test.YtepnillddlemaaaRowW
import Derived.Test.YtepnillddlemaaaFacts
import Derived.Test.YtepnillddlemaaaWalkWoundStill
import Derived.Test.YtepnillddlemaaaOpen
import Derived.Test.YtepnillddlemaaaOpenB
import Derived.WalkKit
import Derived.ProofKit
import Derived.OpenShut
import Derived.ShutString
import Derived.ChangeOld
import Derived.Below
import Derived.SizedLaws
import Derived.JoinedCond
import Derived.Deep.CondSized
set_option linter.unusedVariables false
set_option linter.unusedSimpArgs false
namespace Go.Proofs.Ytepnillddlemaaa.woundStill
open Go.ChangeShapes Go.WideShapes Go.ChangeAt Go.RowKit TG
open Go.ChangeMaps (open_string shut_string)
set_option maxRecDepth 100000 in
theorem lifted (os : Os) (started : os.Started) (H : Type) (enc : TypeId × Value → H) (F : Stop.Interp) :
    ReturnsInHanded {} Try.checked os 12 .any ((Rows.OpenSpec.upto Rows.woundStillSpec).pre6 enc Try.prog Try.f12 Rows.woundStillUptoRow.domain false) (((Rows.OpenSpec.upto Rows.woundStillSpec).at F).post enc Try.prog Try.f12 false true false false) := by
  refine returnsInHanded_of_cond_sized (C := Try.checked) (s := (Rows.OpenSpec.upto Rows.woundStillSpec)) (k := Rows.uptoSmall) rfl f_own started (by kernel_rfl) Try.func12
    (OpenSpec.witness (enc := enc) (C := Try.checked) (s := (Rows.OpenSpec.upto Rows.woundStillSpec)) (k := Rows.uptoSmall) rfl false ⟨#[], #[.slice none 0 0, .slice none 0 0], []⟩ 8 (by kernel_rfl) (by kernel_rfl) (by kernel_rfl)
      (x := ([.nil, .nil], [], [])) (by kernel_rfl) rfl (by kernel_rfl)) ?_
  intro W base args ds gs before hval0 hW hcnd hks hsz0 _
  have hsz : (DataW.weightsEach Try.prog (Try.f12.params.toList ++ Rows.woundStillSpec.plain.varTypes Try.prog) (ds ++ gs)).all (· ≤ reachBytes) = true := hsz0
  have hval : ∀ (j : Nat) t v, Try.f12.params[j]? = some t → args[j]? = some v → Value.okWide Try.prog W .any base t v := hval0
  have hW' := hW
  obtain ⟨p, q, hA0, hV, rfl, hfz, hnd⟩ := hW
  have hA : DataW.TrodAll enc Try.prog W 0 (fun _ => true) true Try.f12.params.toList args.toList ds p := hA0
  rw [Try.params12] at hA hval hsz
  obtain ⟨v0, vs0, d0, ds0, p0, q0, hargs, rfl, rfl, h0, r0⟩ := trodAll_cons hA
  obtain ⟨v1, vs1, d1, ds1, p1, q1, rfl, rfl, rfl, h1, r1⟩ := trodAll_cons r0
  obtain ⟨rfl, rfl, rfl⟩ := trodAll_nil r1
  obtain rfl : args = #[v0, v1] := by cases args; simp_all
  obtain ⟨rfl, rfl⟩ := trodVars_none hV
  have hbk := bulk_small hks
  obtain ⟨a0, len0, cap0, rfl⟩ := okWide_slice Try.underlying25 (hval 0 25 v0 rfl rfl)
  have k0 := h0
  have lt0 : ∀ x ∈ p0, x.block < W.heap.size := by obtain ⟨m, hm⟩ := k0; exact DataW.trod_lt m _ _ _ hm
  obtain ⟨l0, rfl, w0⟩ := open_bytes hsz (j := 0) (t := 25) rfl rfl Try.underlying25 Try.underlying5 (by kernel_rfl) (by kernel_rfl) h0
  obtain ⟨a1, len1, cap1, rfl⟩ := okWide_slice Try.underlying75 (hval 1 75 v1 rfl rfl)
  have k1 := h1
  have lt1 : ∀ x ∈ p1, x.block < W.heap.size := by obtain ⟨m, hm⟩ := k1; exact DataW.trod_lt m _ _ _ hm
  obtain ⟨f1, g1⟩ := h1
  have op1 : OpensB enc Try.prog 75 (Rd.slice (Rd.pair (Rd.num .i64) (Rd.pair (Rd.num .i64) (Rd.slice Rd.u8 (by decide)))) (by decide)) (mSl (mPr mOne (mPr mOne (mSl mOne)))) := (opensB_slice (by decide) Try.underlying75 (by kernel_rfl) (of_decide_eq_true (by kernel_rfl)) (opensB_struct Try.underlying148 (by kernel_rfl) (opensFB_cons (by kernel_rfl) (opensB_of (opens_num Try.underlying3)) rfl (opensFB_cons (by kernel_rfl) (opensB_of (opens_num Try.underlying3)) rfl (opensFB_one (by kernel_rfl) (opensB_slice (by decide) Try.underlying25 (by kernel_rfl) (of_decide_eq_true (by kernel_rfl)) (opensB_of (opens_u8 Try.underlying5))))))))
  obtain ⟨x1, w1, m1⟩ := op1 W f1 _ _ g1 (sized_at hsz (j := 1) (t' := 75) rfl rfl)
  obtain ⟨A1, C1, hcs1, w1⟩ := w1
  simp [Value.cells] at hcs1
  obtain ⟨rfl, rfl, rfl⟩ := hcs1
  have b1 : (mSl (mPr mOne (mPr mOne (mSl mOne)))) x1 ≤ 1048576 := by
    refine Nat.le_trans m1 (Nat.le_trans (bulk_le ?_) hbk)
    simp
  clear hA0 hval0 hsz0 hsz
  refine (walk_WoundStill W a0 cap0 l0 w0 _ _ x1 w1 b1).mono fun e W' ⟨he, bel⟩ => ?_
  subst he
  exact ⟨_, rfl, _, _, _, [], _, [], hW', trodAll_mk1 (shut_bool Try.underlying4 _), (trodAll_cons_mk (Below.trod f_laid (by kernel_rfl) (of_decide_eq_true (by kernel_rfl)) k0 bel lt0) (trodAll_cons_mk (Below.trod f_laid (by kernel_rfl) (of_decide_eq_true (by kernel_rfl)) k1 bel lt1) trodAll_mk0)), rfl, bel.frame _, fun h => by cases h⟩
theorem k0 : (Rows.woundStillUptoRow.wf (OpenSpec.ofChange Rows.woundStillSpec)) = true := by kernel_rfl
theorem k1 : (laidOutB Try.pinned.checked.prog) = true := f_laid
theorem k2 : (mapsRowed Try.pinned.checked.prog) = true := f_maps
theorem k3 : (Try.f12.params.all (Try.pinned.checked.prog.readableRec ·)) = true := by kernel_rfl
theorem k4 : (namedTie Try.pinned.checked.prog Rows.woundStillUptoRow.named Rows.woundStillSpec.vars) = true := by kernel_rfl
theorem k5 : ((Rows.woundStillUptoRow.stops == [])) = true := by kernel_rfl
theorem k6 : (Try.pinned.checked.prog.stops == []) = true := f_stops
theorem k7 : ((Rows.woundStillUptoRow.knobs == [])) = true := by kernel_rfl
theorem k8 : (Try.pinned.checked.prog.stopKnobs == []) = true := f_knobs
theorem k9 : ((Rows.woundStillUptoRow.inPlace == Try.pinned.checked.prog.inPlace 12)) = true := by kernel_rfl
theorem k10 : ((Rows.woundStillUptoRow.unfollowed == Try.pinned.checked.prog.unfollowed 12)) = true := by kernel_rfl
theorem k11 : ((Rows.woundStillUptoRow.recurses == Try.pinned.checked.prog.recurses 12)) = true := by kernel_rfl
theorem k12 : ((Rows.woundStillUptoRow.named == Try.pinned.checked.prog.varsNamed 12)) = true := by kernel_rfl
theorem k13 : ((Rows.woundStillUptoRow.maps == (Try.f12.params.toList ++ Rows.woundStillSpec.plain.varTypes Try.pinned.checked.prog).any (Try.pinned.checked.prog.mapsRec ·))) = true := by kernel_rfl
theorem k14 : ((Rows.woundStillUptoRow.ifaces == (Try.f12.params.toList ++ Rows.woundStillSpec.plain.varTypes Try.pinned.checked.prog).any (Try.pinned.checked.prog.ifacesRec ·))) = true := by kernel_rfl
theorem k15 : ((Rows.woundStillUptoRow.mapsOut == Try.pinned.checked.prog.mapsAmong Try.f12.resultTypes.toList)) = true := by kernel_rfl
theorem k16 : ((Rows.woundStillUptoRow.loops == (Try.f12.params.toList ++ Rows.woundStillSpec.plain.varTypes Try.pinned.checked.prog).any (Try.pinned.checked.prog.loopsFrom ·))) = true := by kernel_rfl
theorem k17 : ((Rows.woundStillUptoRow.wideKeys == (Try.f12.params.toList ++ Rows.woundStillSpec.plain.varTypes Try.pinned.checked.prog ++ Try.f12.resultTypes.toList).any (Try.pinned.checked.prog.wideKeysFrom ·))) = true := by kernel_rfl
theorem k18 : (Rows.woundStillSpec.vars.all (Try.pinned.checked.prog.varReadable ·)) = true := by kernel_rfl
theorem k19 : (Try.f12.resultTypes.all (fun t => Try.pinned.checked.prog.readableRec t && decide (t < Try.pinned.checked.prog.types.size))) = true := by kernel_rfl
theorem k20 : ((Rows.woundStillUptoRow.ifacesOut == Try.f12.resultTypes.toList.any (Try.pinned.checked.prog.ifacesRec ·))) = true := by kernel_rfl
theorem k21 : ((Rows.woundStillUptoRow.loopsOut == Try.f12.resultTypes.toList.any (Try.pinned.checked.prog.loopsFrom ·))) = true := by kernel_rfl
theorem k22 : ((Rows.woundStillUptoRow.plainKeys == Try.pinned.checked.prog.plainKeys)) = true := by kernel_rfl
theorem k23 : (Rows.woundStillUptoRow.shortTexts.isNone) = true := by kernel_rfl
theorem k24 : (Try.pinned.checked.prog.stopsHeard) = true := f_heard
theorem k25 : (Try.pinned.checked.prog.mayEnter) = true := f_enter
theorem k26 : (Rows.woundStillUptoRow.lifted == Try.pinned.checked.prog.liftsFinal) = true := by rw [f_lifts]; rfl
theorem k27 : (Try.pinned.checked.prog.make == some Rows.woundStillUptoRow.make) = true := by rw [f_make]; rfl
theorem k28 : ((Rows.woundStillUptoRow.kinds == (if Rows.woundStillUptoRow.domain.isEmpty then [] else Try.f12.params.toList.map fun t => match Try.pinned.checked.prog.underlying t with | some (.int k) => some k | _ => none))) = true := by kernel_rfl
theorem k29 : ((Rows.woundStillUptoRow.pinned == Rows.woundStillUptoRow.pinnedBy)) = true := by kernel_rfl
theorem k30 : ((Rows.woundStillUptoRow.veiled == (Try.f12.params.toList ++ Rows.woundStillSpec.plain.varTypes Try.pinned.checked.prog ++ Try.f12.resultTypes.toList).any (Try.pinned.checked.prog.veiledRec ·))) = true := by kernel_rfl
theorem k31 : (Rows.woundStillUptoRow.veiledFits Try.pinned.checked.prog Try.f12.params.toList (Try.f12.params.toList ++ Rows.woundStillSpec.plain.varTypes Try.pinned.checked.prog ++ Try.f12.resultTypes.toList)) = true := by kernel_rfl
theorem o1 : Try.pinned.checked.prog.funcNamed "tachograph/tachographlaw25.WoundStill" = some 12 := by kernel_rfl
theorem o2 : joinedFacts Try.pinned.checked.prog 12 Try.f12 Rows.woundStillSpec Rows.woundStillUptoRow = true := joined_of Try.pinned.checked.prog 12 Try.f12 Rows.woundStillSpec Rows.woundStillUptoRow k0 k1 k2 k3 k4 k5 k6 k7 k8 k9 k10 k11 k12 k13 k14 k15 k16 k17 k18 k19 k20 k21 k22 k23 k24 k25 k26 k27 (by kernel_rfl) k29 k30 k31
theorem o3 : Try.f12.isInstance Try.pinned.checked.prog Rows.woundStillUptoRow.origin Rows.woundStillUptoRow.targs := of_decide_eq_true (by kernel_rfl)
theorem o4 : Try.f12.isWrapper Try.pinned.checked.prog Rows.woundStillUptoRow.wrapper Rows.woundStillUptoRow.mainSum := by unfold Func.isWrapper; first | (rw [if_pos (by decide +kernel)]; kernel_rfl) | (rw [if_neg (by decide +kernel)]; exact ⟨rfl, rfl⟩)
theorem over : Rows.woundStillUptoRow.holds Try.pinned (Rows.OpenSpec.upto Rows.woundStillSpec) :=
  OpenClaim.holds_of_cond 12 Try.f12 rfl rfl rfl rfl rfl rfl rfl ⟨rfl, rfl, rfl, rfl, rfl⟩ rfl rfl rfl rfl rfl o1 Try.func12 o2 o3 o4 (fun os started H enc _ F => lifted os started H enc F)
theorem proved : Rows.WoundStillUptoSaid := over
#print axioms proved
end Go.Proofs.Ytepnillddlemaaa.woundStill
namespace Go.Proofs.Ytepnillddlemaaa
/-- The row, under a short name, for the claim. -/
theorem woundStillUpto_holds : Rows.WoundStillUptoSaid := woundStill.proved
end Go.Proofs.Ytepnillddlemaaa
