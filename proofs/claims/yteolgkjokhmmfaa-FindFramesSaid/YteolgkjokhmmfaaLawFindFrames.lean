/- The statement Rows.FindFramesSaid, out of the walk of its law: for every input that the row speaks of the call returns true, and the input reads as it did. No further condition. -/
import Derived.Test.YteolgkjokhmmfaaRows
import Derived.Test.YteolgkjokhmmfaaRowW
import Derived.Test.YteolgkjokhmmfaaFacts
import Derived.Test.YteolgkjokhmmfaaWalkFindFrames
import Derived.Test.YteolgkjokhmmfaaOpen
import Derived.WalkKit
import Derived.ProofKit
import Derived.OpenShut
import Derived.ShutString
import Derived.ChangeOld
import Derived.Below
import Derived.SizedLaws
set_option linter.unusedVariables false
set_option linter.unusedSimpArgs false
namespace Go.Proofs.Yteolgkjokhmmfaa.findFrames
open Go.ChangeShapes Go.WideShapes Go.ChangeAt Go.RowKit TG
open Go.ChangeMaps (open_string shut_string)
set_option maxRecDepth 100000 in
theorem lifted (os : Os) (started : os.Started) (H : Type) (enc : TypeId × Value → H) :
    ReturnsInHanded {} Try.checked os 13 .any (Rows.findFramesSpec.pre6 enc Try.prog Try.f13 Rows.findFramesRow.domain false) (Rows.findFramesSpec.post enc Try.prog Try.f13 false true false false) := by
  refine returnsInHanded_of_change_sized (C := Try.checked) f_own started (by kernel_rfl) Try.func13
    (ChangeSpec.witness6 (enc := enc) (C := Try.checked) false ⟨#[], #[.slice none 0 0, .slice none 0 0], []⟩ 8 (by kernel_rfl) (by kernel_rfl) (by kernel_rfl) (by kernel_rfl)) ?_
  intro W base args ds gs before hval0 hW hcnd hsz0 _
  have hsz : (DataW.weightsEach Try.prog (Try.f13.params.toList ++ Rows.findFramesSpec.plain.varTypes Try.prog) (ds ++ gs)).all (· ≤ reachBytes) = true := hsz0
  have hval : ∀ (j : Nat) t v, Try.f13.params[j]? = some t → args[j]? = some v → Value.okWide Try.prog W .any base t v := hval0
  have hW' := hW
  obtain ⟨p, q, hA0, hV, rfl, hfz, hnd⟩ := hW
  have hA : DataW.TrodAll enc Try.prog W 0 (fun _ => true) true Try.f13.params.toList args.toList ds p := hA0
  rw [Try.params13] at hA hval hsz
  obtain ⟨v0, vs0, d0, ds0, p0, q0, hargs, rfl, rfl, h0, r0⟩ := trodAll_cons hA
  obtain ⟨v1, vs1, d1, ds1, p1, q1, rfl, rfl, rfl, h1, r1⟩ := trodAll_cons r0
  obtain ⟨rfl, rfl, rfl⟩ := trodAll_nil r1
  obtain rfl : args = #[v0, v1] := by cases args; simp_all
  obtain ⟨rfl, rfl⟩ := trodVars_none hV
  obtain ⟨a0, len0, cap0, rfl⟩ := okWide_slice Try.underlying27 (hval 0 27 v0 rfl rfl)
  have k0 := h0
  have lt0 : ∀ x ∈ p0, x.block < W.heap.size := by obtain ⟨m, hm⟩ := k0; exact DataW.trod_lt m _ _ _ hm
  obtain ⟨l0, rfl, w0⟩ := open_bytes hsz (j := 0) (t := 27) rfl rfl Try.underlying27 Try.underlying5 (by kernel_rfl) (by kernel_rfl) h0
  obtain ⟨a1, len1, cap1, rfl⟩ := okWide_slice Try.underlying64 (hval 1 64 v1 rfl rfl)
  have k1 := h1
  have lt1 : ∀ x ∈ p1, x.block < W.heap.size := by obtain ⟨m, hm⟩ := k1; exact DataW.trod_lt m _ _ _ hm
  obtain ⟨f1, g1⟩ := h1
  have op1 : Opens enc Try.prog 64 (Rd.slice (Rd.pair (Rd.num .i64) (Rd.slice Rd.u8 (by decide))) (by decide)) := (opens_slice (by decide) Try.underlying64 (by kernel_rfl) (of_decide_eq_true (by kernel_rfl)) (opens_struct Try.underlying39 (by kernel_rfl) (opensF_cons (by kernel_rfl) (opens_num Try.underlying3) rfl (opensF_one (by kernel_rfl) (opens_slice (by decide) Try.underlying27 (by kernel_rfl) (of_decide_eq_true (by kernel_rfl)) (opens_u8 Try.underlying5))))))
  obtain ⟨x1, w1⟩ := op1 W f1 _ _ g1 (sized_at hsz (j := 1) (t' := 64) rfl rfl)
  obtain ⟨A1, C1, hcs1, w1⟩ := w1
  simp [Value.cells] at hcs1
  obtain ⟨rfl, rfl, rfl⟩ := hcs1
  clear hA0 hval0 hsz0 hsz
  refine (walk_FindFrames W a0 cap0 l0 w0 _ _ x1 w1).mono fun e W' ⟨he, bel⟩ => ?_
  subst he
  exact ⟨_, rfl, _, _, _, [], _, [], hW', trodAll_mk1 (shut_bool Try.underlying4 _), (trodAll_cons_mk (Below.trod f_laid (by kernel_rfl) (of_decide_eq_true (by kernel_rfl)) k0 bel lt0) (trodAll_cons_mk (Below.trod f_laid (by kernel_rfl) (of_decide_eq_true (by kernel_rfl)) k1 bel lt1) trodAll_mk0)), rfl, bel.frame _, fun h => by cases h⟩
theorem k0 : (Rows.findFramesRow.wf (OpenSpec.ofChange Rows.findFramesSpec)) = true := by kernel_rfl
theorem k1 : (laidOutB Try.pinned.checked.prog) = true := f_laid
theorem k2 : (mapsRowed Try.pinned.checked.prog) = true := f_maps
theorem k3 : (Try.f13.params.all (Try.pinned.checked.prog.readableRec ·)) = true := by kernel_rfl
theorem k4 : (namedTie Try.pinned.checked.prog Rows.findFramesRow.named Rows.findFramesSpec.vars) = true := by kernel_rfl
theorem k5 : ((Rows.findFramesRow.stops == [])) = true := by kernel_rfl
theorem k6 : (Try.pinned.checked.prog.stops == []) = true := f_stops
theorem k7 : ((Rows.findFramesRow.knobs == [])) = true := by kernel_rfl
theorem k8 : (Try.pinned.checked.prog.stopKnobs == []) = true := f_knobs
theorem k9 : ((Rows.findFramesRow.inPlace == Try.pinned.checked.prog.inPlace 13)) = true := by kernel_rfl
theorem k10 : ((Rows.findFramesRow.unfollowed == Try.pinned.checked.prog.unfollowed 13)) = true := by kernel_rfl
theorem k11 : ((Rows.findFramesRow.recurses == Try.pinned.checked.prog.recurses 13)) = true := by kernel_rfl
theorem k12 : ((Rows.findFramesRow.named == Try.pinned.checked.prog.varsNamed 13)) = true := by kernel_rfl
theorem k13 : ((Rows.findFramesRow.maps == (Try.f13.params.toList ++ Rows.findFramesSpec.plain.varTypes Try.pinned.checked.prog).any (Try.pinned.checked.prog.mapsRec ·))) = true := by kernel_rfl
theorem k14 : ((Rows.findFramesRow.ifaces == (Try.f13.params.toList ++ Rows.findFramesSpec.plain.varTypes Try.pinned.checked.prog).any (Try.pinned.checked.prog.ifacesRec ·))) = true := by kernel_rfl
theorem k15 : ((Rows.findFramesRow.mapsOut == Try.pinned.checked.prog.mapsAmong Try.f13.resultTypes.toList)) = true := by kernel_rfl
theorem k16 : ((Rows.findFramesRow.loops == (Try.f13.params.toList ++ Rows.findFramesSpec.plain.varTypes Try.pinned.checked.prog).any (Try.pinned.checked.prog.loopsFrom ·))) = true := by kernel_rfl
theorem k17 : ((Rows.findFramesRow.wideKeys == (Try.f13.params.toList ++ Rows.findFramesSpec.plain.varTypes Try.pinned.checked.prog ++ Try.f13.resultTypes.toList).any (Try.pinned.checked.prog.wideKeysFrom ·))) = true := by kernel_rfl
theorem k18 : (Rows.findFramesSpec.vars.all (Try.pinned.checked.prog.varReadable ·)) = true := by kernel_rfl
theorem k19 : (Try.f13.resultTypes.all (fun t => Try.pinned.checked.prog.readableRec t && decide (t < Try.pinned.checked.prog.types.size))) = true := by kernel_rfl
theorem k20 : ((Rows.findFramesRow.ifacesOut == Try.f13.resultTypes.toList.any (Try.pinned.checked.prog.ifacesRec ·))) = true := by kernel_rfl
theorem k21 : ((Rows.findFramesRow.loopsOut == Try.f13.resultTypes.toList.any (Try.pinned.checked.prog.loopsFrom ·))) = true := by kernel_rfl
theorem k22 : ((Rows.findFramesRow.plainKeys == Try.pinned.checked.prog.plainKeys)) = true := by kernel_rfl
theorem k23 : (Rows.findFramesRow.shortTexts.isNone) = true := by kernel_rfl
theorem k24 : (Try.pinned.checked.prog.stopsHeard) = true := f_heard
theorem k25 : (Try.pinned.checked.prog.mayEnter) = true := f_enter
theorem k26 : (Rows.findFramesRow.lifted == Try.pinned.checked.prog.liftsFinal) = true := by rw [f_lifts]; rfl
theorem k27 : (Try.pinned.checked.prog.make == some Rows.findFramesRow.make) = true := by rw [f_make]; rfl
theorem k28 : ((Rows.findFramesRow.kinds == (if Rows.findFramesRow.domain.isEmpty then [] else Try.f13.params.toList.map fun t => match Try.pinned.checked.prog.underlying t with | some (.int k) => some k | _ => none))) = true := by kernel_rfl
theorem k29 : ((Rows.findFramesRow.pinned == Rows.findFramesRow.pinnedBy)) = true := by kernel_rfl
theorem k30 : ((Rows.findFramesRow.veiled == (Try.f13.params.toList ++ Rows.findFramesSpec.plain.varTypes Try.pinned.checked.prog ++ Try.f13.resultTypes.toList).any (Try.pinned.checked.prog.veiledRec ·))) = true := by kernel_rfl
theorem k31 : (Rows.findFramesRow.veiledFits Try.pinned.checked.prog Try.f13.params.toList (Try.f13.params.toList ++ Rows.findFramesSpec.plain.varTypes Try.pinned.checked.prog ++ Try.f13.resultTypes.toList)) = true := by kernel_rfl
theorem o1 : Try.pinned.checked.prog.funcNamed "tachograph/tachographlaw06.FindFrames" = some 13 := by kernel_rfl
theorem o2 : joinedFacts Try.pinned.checked.prog 13 Try.f13 Rows.findFramesSpec Rows.findFramesRow = true := joined_of Try.pinned.checked.prog 13 Try.f13 Rows.findFramesSpec Rows.findFramesRow k0 k1 k2 k3 k4 k5 k6 k7 k8 k9 k10 k11 k12 k13 k14 k15 k16 k17 k18 k19 k20 k21 k22 k23 k24 k25 k26 k27 (by kernel_rfl) k29 k30 k31
theorem o3 : Try.f13.isInstance Try.pinned.checked.prog Rows.findFramesRow.origin Rows.findFramesRow.targs := of_decide_eq_true (by kernel_rfl)
theorem o4 : Try.f13.isWrapper Try.pinned.checked.prog Rows.findFramesRow.wrapper Rows.findFramesRow.mainSum := by unfold Func.isWrapper; first | (rw [if_pos (by decide +kernel)]; kernel_rfl) | (rw [if_neg (by decide +kernel)]; exact ⟨rfl, rfl⟩)
theorem over : Rows.findFramesRow.holds Try.pinned (OpenSpec.ofChange Rows.findFramesSpec) :=
  OpenClaim.holds_of_wide 13 Try.f13 rfl rfl rfl rfl rfl rfl rfl ⟨rfl, rfl, rfl, rfl, rfl⟩ rfl rfl rfl rfl rfl o1 Try.func13 o2 o3 o4 (fun os started H enc _ => lifted os started H enc)
theorem proved : Rows.FindFramesSaid := over
#print axioms proved
end Go.Proofs.Yteolgkjokhmmfaa.findFrames
namespace Go.Proofs.Yteolgkjokhmmfaa
/-- The row, under a short name, for the claim. -/
theorem findFrames_holds : Rows.FindFramesSaid := findFrames.proved
end Go.Proofs.Yteolgkjokhmmfaa
