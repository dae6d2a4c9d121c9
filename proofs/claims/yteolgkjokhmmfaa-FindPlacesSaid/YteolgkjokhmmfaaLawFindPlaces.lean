/- The statement Rows.FindPlacesSaid, out of the walk of its law: for every input that the row speaks of the call returns true, and the input reads as it did. No further condition. -/
import Derived.Test.YteolgkjokhmmfaaRows
import Derived.Test.YteolgkjokhmmfaaRowW
import Derived.Test.YteolgkjokhmmfaaFacts
import Derived.Test.YteolgkjokhmmfaaWalkFindPlaces
import Derived.WalkKit
import Derived.ProofKit
import Derived.OpenShut
import Derived.ShutString
import Derived.ChangeOld
import Derived.Below
import Derived.SizedLaws
set_option linter.unusedVariables false
set_option linter.unusedSimpArgs false
namespace Go.Proofs.Yteolgkjokhmmfaa.findPlaces
open Go.ChangeShapes Go.WideShapes Go.ChangeAt Go.RowKit TG
open Go.ChangeMaps (open_string shut_string)
set_option maxRecDepth 100000 in
theorem lifted (os : Os) (started : os.Started) (H : Type) (enc : TypeId × Value → H) :
    ReturnsInHanded {} Try.checked os 11 .any (Rows.findPlacesSpec.pre6 enc Try.prog Try.f11 Rows.findPlacesRow.domain false) (Rows.findPlacesSpec.post enc Try.prog Try.f11 false true false false) := by
  refine returnsInHanded_of_change_sized (C := Try.checked) f_own started (by kernel_rfl) Try.func11
    (ChangeSpec.witness6 (enc := enc) (C := Try.checked) false ⟨#[], #[.slice none 0 0, .int .i64 0, .int .i64 0], []⟩ 8 (by kernel_rfl) (by kernel_rfl) (by kernel_rfl) (by kernel_rfl)) ?_
  intro W base args ds gs before hval0 hW hcnd hsz0 _
  have hsz : (DataW.weightsEach Try.prog (Try.f11.params.toList ++ Rows.findPlacesSpec.plain.varTypes Try.prog) (ds ++ gs)).all (· ≤ reachBytes) = true := hsz0
  have hval : ∀ (j : Nat) t v, Try.f11.params[j]? = some t → args[j]? = some v → Value.okWide Try.prog W .any base t v := hval0
  have hW' := hW
  obtain ⟨p, q, hA0, hV, rfl, hfz, hnd⟩ := hW
  have hA : DataW.TrodAll enc Try.prog W 0 (fun _ => true) true Try.f11.params.toList args.toList ds p := hA0
  rw [Try.params11] at hA hval hsz
  obtain ⟨v0, vs0, d0, ds0, p0, q0, hargs, rfl, rfl, h0, r0⟩ := trodAll_cons hA
  obtain ⟨v1, vs1, d1, ds1, p1, q1, rfl, rfl, rfl, h1, r1⟩ := trodAll_cons r0
  obtain ⟨v2, vs2, d2, ds2, p2, q2, rfl, rfl, rfl, h2, r2⟩ := trodAll_cons r1
  obtain ⟨rfl, rfl, rfl⟩ := trodAll_nil r2
  obtain rfl : args = #[v0, v1, v2] := by cases args; simp_all
  obtain ⟨rfl, rfl⟩ := trodVars_none hV
  obtain ⟨a0, len0, cap0, rfl⟩ := okWide_slice Try.underlying27 (hval 0 27 v0 rfl rfl)
  have k0 := h0
  have lt0 : ∀ x ∈ p0, x.block < W.heap.size := by obtain ⟨m, hm⟩ := k0; exact DataW.trod_lt m _ _ _ hm
  obtain ⟨l0, rfl, w0⟩ := open_bytes hsz (j := 0) (t := 27) rfl rfl Try.underlying27 Try.underlying5 (by kernel_rfl) (by kernel_rfl) h0
  obtain ⟨a1, rfl, rfl, rfl, w1⟩ := open_int Try.underlying3 (hval 1 3 v1 rfl rfl) h1
  obtain ⟨a2, rfl, rfl, rfl, w2⟩ := open_int Try.underlying3 (hval 2 3 v2 rfl rfl) h2
  clear hA0 hval0 hsz0 hsz
  refine (walk_FindPlaces W a0 cap0 l0 w0 a1 w1 a2 w2).mono fun e W' ⟨he, bel⟩ => ?_
  subst he
  exact ⟨_, rfl, _, _, _, [], _, [], hW', trodAll_mk1 (shut_bool Try.underlying4 _), (trodAll_cons_mk (Below.trod f_laid (by kernel_rfl) (of_decide_eq_true (by kernel_rfl)) k0 bel lt0) (trodAll_cons_mk (shut_int Try.underlying3 w1) (trodAll_cons_mk (shut_int Try.underlying3 w2) trodAll_mk0))), rfl, bel.frame _, fun h => by cases h⟩
theorem k0 : (Rows.findPlacesRow.wf (OpenSpec.ofChange Rows.findPlacesSpec)) = true := by kernel_rfl
theorem k1 : (laidOutB Try.pinned.checked.prog) = true := f_laid
theorem k2 : (mapsRowed Try.pinned.checked.prog) = true := f_maps
theorem k3 : (Try.f11.params.all (Try.pinned.checked.prog.readableRec ·)) = true := by kernel_rfl
theorem k4 : (namedTie Try.pinned.checked.prog Rows.findPlacesRow.named Rows.findPlacesSpec.vars) = true := by kernel_rfl
theorem k5 : ((Rows.findPlacesRow.stops == [])) = true := by kernel_rfl
theorem k6 : (Try.pinned.checked.prog.stops == []) = true := f_stops
theorem k7 : ((Rows.findPlacesRow.knobs == [])) = true := by kernel_rfl
theorem k8 : (Try.pinned.checked.prog.stopKnobs == []) = true := f_knobs
theorem k9 : ((Rows.findPlacesRow.inPlace == Try.pinned.checked.prog.inPlace 11)) = true := by kernel_rfl
theorem k10 : ((Rows.findPlacesRow.unfollowed == Try.pinned.checked.prog.unfollowed 11)) = true := by kernel_rfl
theorem k11 : ((Rows.findPlacesRow.recurses == Try.pinned.checked.prog.recurses 11)) = true := by kernel_rfl
theorem k12 : ((Rows.findPlacesRow.named == Try.pinned.checked.prog.varsNamed 11)) = true := by kernel_rfl
theorem k13 : ((Rows.findPlacesRow.maps == (Try.f11.params.toList ++ Rows.findPlacesSpec.plain.varTypes Try.pinned.checked.prog).any (Try.pinned.checked.prog.mapsRec ·))) = true := by kernel_rfl
theorem k14 : ((Rows.findPlacesRow.ifaces == (Try.f11.params.toList ++ Rows.findPlacesSpec.plain.varTypes Try.pinned.checked.prog).any (Try.pinned.checked.prog.ifacesRec ·))) = true := by kernel_rfl
theorem k15 : ((Rows.findPlacesRow.mapsOut == Try.pinned.checked.prog.mapsAmong Try.f11.resultTypes.toList)) = true := by kernel_rfl
theorem k16 : ((Rows.findPlacesRow.loops == (Try.f11.params.toList ++ Rows.findPlacesSpec.plain.varTypes Try.pinned.checked.prog).any (Try.pinned.checked.prog.loopsFrom ·))) = true := by kernel_rfl
theorem k17 : ((Rows.findPlacesRow.wideKeys == (Try.f11.params.toList ++ Rows.findPlacesSpec.plain.varTypes Try.pinned.checked.prog ++ Try.f11.resultTypes.toList).any (Try.pinned.checked.prog.wideKeysFrom ·))) = true := by kernel_rfl
theorem k18 : (Rows.findPlacesSpec.vars.all (Try.pinned.checked.prog.varReadable ·)) = true := by kernel_rfl
theorem k19 : (Try.f11.resultTypes.all (fun t => Try.pinned.checked.prog.readableRec t && decide (t < Try.pinned.checked.prog.types.size))) = true := by kernel_rfl
theorem k20 : ((Rows.findPlacesRow.ifacesOut == Try.f11.resultTypes.toList.any (Try.pinned.checked.prog.ifacesRec ·))) = true := by kernel_rfl
theorem k21 : ((Rows.findPlacesRow.loopsOut == Try.f11.resultTypes.toList.any (Try.pinned.checked.prog.loopsFrom ·))) = true := by kernel_rfl
theorem k22 : ((Rows.findPlacesRow.plainKeys == Try.pinned.checked.prog.plainKeys)) = true := by kernel_rfl
theorem k23 : (Rows.findPlacesRow.shortTexts.isNone) = true := by kernel_rfl
theorem k24 : (Try.pinned.checked.prog.stopsHeard) = true := f_heard
theorem k25 : (Try.pinned.checked.prog.mayEnter) = true := f_enter
theorem k26 : (Rows.findPlacesRow.lifted == Try.pinned.checked.prog.liftsFinal) = true := by rw [f_lifts]; rfl
theorem k27 : (Try.pinned.checked.prog.make == some Rows.findPlacesRow.make) = true := by rw [f_make]; rfl
theorem k28 : ((Rows.findPlacesRow.kinds == (if Rows.findPlacesRow.domain.isEmpty then [] else Try.f11.params.toList.map fun t => match Try.pinned.checked.prog.underlying t with | some (.int k) => some k | _ => none))) = true := by kernel_rfl
theorem k29 : ((Rows.findPlacesRow.pinned == Rows.findPlacesRow.pinnedBy)) = true := by kernel_rfl
theorem k30 : ((Rows.findPlacesRow.veiled == (Try.f11.params.toList ++ Rows.findPlacesSpec.plain.varTypes Try.pinned.checked.prog ++ Try.f11.resultTypes.toList).any (Try.pinned.checked.prog.veiledRec ·))) = true := by kernel_rfl
theorem k31 : (Rows.findPlacesRow.veiledFits Try.pinned.checked.prog Try.f11.params.toList (Try.f11.params.toList ++ Rows.findPlacesSpec.plain.varTypes Try.pinned.checked.prog ++ Try.f11.resultTypes.toList)) = true := by kernel_rfl
theorem o1 : Try.pinned.checked.prog.funcNamed "tachograph/tachographlaw06.FindPlaces" = some 11 := by kernel_rfl
theorem o2 : joinedFacts Try.pinned.checked.prog 11 Try.f11 Rows.findPlacesSpec Rows.findPlacesRow = true := joined_of Try.pinned.checked.prog 11 Try.f11 Rows.findPlacesSpec Rows.findPlacesRow k0 k1 k2 k3 k4 k5 k6 k7 k8 k9 k10 k11 k12 k13 k14 k15 k16 k17 k18 k19 k20 k21 k22 k23 k24 k25 k26 k27 (by kernel_rfl) k29 k30 k31
theorem o3 : Try.f11.isInstance Try.pinned.checked.prog Rows.findPlacesRow.origin Rows.findPlacesRow.targs := of_decide_eq_true (by kernel_rfl)
theorem o4 : Try.f11.isWrapper Try.pinned.checked.prog Rows.findPlacesRow.wrapper Rows.findPlacesRow.mainSum := by unfold Func.isWrapper; first | (rw [if_pos (by decide +kernel)]; kernel_rfl) | (rw [if_neg (by decide +kernel)]; exact ⟨rfl, rfl⟩)
theorem over : Rows.findPlacesRow.holds Try.pinned (OpenSpec.ofChange Rows.findPlacesSpec) :=
  OpenClaim.holds_of_wide 11 Try.f11 rfl rfl rfl rfl rfl rfl rfl ⟨rfl, rfl, rfl, rfl, rfl⟩ rfl rfl rfl rfl rfl o1 Try.func11 o2 o3 o4 (fun os started H enc _ => lifted os started H enc)
theorem proved : Rows.FindPlacesSaid := over
#print axioms proved
end Go.Proofs.Yteolgkjokhmmfaa.findPlaces
namespace Go.Proofs.Yteolgkjokhmmfaa
/-- The row, under a short name, for the claim. -/
theorem findPlaces_holds : Rows.FindPlacesSaid := findPlaces.proved
end Go.Proofs.Yteolgkjokhmmfaa
