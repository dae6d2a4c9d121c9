/- The statement Rows.FeedChunksSaid, out of the walk of its law: for every input that the row speaks of the call returns true, and the input reads as it did. No further condition. -/
import Derived.Test.YtepnillddlemaaaRows
import Derived.Test.YtepnillddlemaaaRowW
import Derived.Test.YtepnillddlemaaaFacts
import Derived.Test.YtepnillddlemaaaWalkFeedChunks
import Derived.Test.YtepnillddlemaaaOpen
import Derived.WalkKit
import Derived.ProofKit
import Derived.OpenShut
import Derived.ShutString
import Derived.ChangeOld
import Derived.Below
import Derived.SizedLaws
set_option linter.unusedVariables false
set_option linter.unusedSimpArgs false
namespace Go.Proofs.Ytepnillddlemaaa.feedChunks
open Go.ChangeShapes Go.WideShapes Go.ChangeAt Go.RowKit TG
open Go.ChangeMaps (open_string shut_string)
set_option maxRecDepth 100000 in
theorem lifted (os : Os) (started : os.Started) (H : Type) (enc : TypeId × Value → H) :
    ReturnsInHanded {} Try.checked os 10 .any (Rows.feedChunksSpec.pre6 enc Try.prog Try.f10 Rows.feedChunksRow.domain false) (Rows.feedChunksSpec.post enc Try.prog Try.f10 false true false false) := by
  refine returnsInHanded_of_change_sized (C := Try.checked) f_own started (by kernel_rfl) Try.func10
    (ChangeSpec.witness6 (enc := enc) (C := Try.checked) false ⟨#[], #[.slice none 0 0, .slice none 0 0], []⟩ 8 (by kernel_rfl) (by kernel_rfl) (by kernel_rfl) (by kernel_rfl)) ?_
  intro W base args ds gs before hval0 hW hcnd hsz0 _
  have hsz : (DataW.weightsEach Try.prog (Try.f10.params.toList ++ Rows.feedChunksSpec.plain.varTypes Try.prog) (ds ++ gs)).all (· ≤ reachBytes) = true := hsz0
  have hval : ∀ (j : Nat) t v, Try.f10.params[j]? = some t → args[j]? = some v → Value.okWide Try.prog W .any base t v := hval0
  have hW' := hW
  obtain ⟨p, q, hA0, hV, rfl, hfz, hnd⟩ := hW
  have hA : DataW.TrodAll enc Try.prog W 0 (fun _ => true) true Try.f10.params.toList args.toList ds p := hA0
  rw [Try.params10] at hA hval hsz
  obtain ⟨v0, vs0, d0, ds0, p0, q0, hargs, rfl, rfl, h0, r0⟩ := trodAll_cons hA
  obtain ⟨v1, vs1, d1, ds1, p1, q1, rfl, rfl, rfl, h1, r1⟩ := trodAll_cons r0
  obtain ⟨rfl, rfl, rfl⟩ := trodAll_nil r1
  obtain rfl : args = #[v0, v1] := by cases args; simp_all
  obtain ⟨rfl, rfl⟩ := trodVars_none hV
  obtain ⟨a0, len0, cap0, rfl⟩ := okWide_slice Try.underlying25 (hval 0 25 v0 rfl rfl)
  have k0 := h0
  have lt0 : ∀ x ∈ p0, x.block < W.heap.size := by obtain ⟨m, hm⟩ := k0; exact DataW.trod_lt m _ _ _ hm
  obtain ⟨l0, rfl, w0⟩ := open_bytes hsz (j := 0) (t := 25) rfl rfl Try.underlying25 Try.underlying5 (by kernel_rfl) (by kernel_rfl) h0
  obtain ⟨a1, len1, cap1, rfl⟩ := okWide_slice Try.underlying63 (hval 1 63 v1 rfl rfl)
  have k1 := h1
  have lt1 : ∀ x ∈ p1, x.block < W.heap.size := by obtain ⟨m, hm⟩ := k1; exact DataW.trod_lt m _ _ _ hm
  obtain ⟨f1, g1⟩ := h1
  have op1 : Opens enc Try.prog 63 (Rd.slice (Rd.num .u16) (by decide)) := (opens_slice (by decide) Try.underlying63 (by kernel_rfl) (of_decide_eq_true (by kernel_rfl)) (opens_num Try.underlying40))
  obtain ⟨x1, w1⟩ := op1 W f1 _ _ g1 (sized_at hsz (j := 1) (t' := 63) rfl rfl)
  obtain ⟨A1, C1, hcs1, w1⟩ := w1
  simp [Value.cells] at hcs1
  obtain ⟨rfl, rfl, rfl⟩ := hcs1
  clear hA0 hval0 hsz0 hsz
  refine (walk_FeedChunks W a0 cap0 l0 w0 _ _ x1 w1).mono fun e W' ⟨he, bel⟩ => ?_
  subst he
  exact ⟨_, rfl, _, _, _, [], _, [], hW', trodAll_mk1 (shut_bool Try.underlying4 _), (trodAll_cons_mk (Below.trod f_laid (by kernel_rfl) (of_decide_eq_true (by kernel_rfl)) k0 bel lt0) (trodAll_cons_mk (Below.trod f_laid (by kernel_rfl) (of_decide_eq_true (by kernel_rfl)) k1 bel lt1) trodAll_mk0)), rfl, bel.frame _, fun h => by cases h⟩
theorem k0 : (Rows.feedChunksRow.wf (OpenSpec.ofChange Rows.feedChunksSpec)) = true := by kernel_rfl
theorem k1 : (laidOutB Try.pinned.checked.prog) = true := f_laid
theorem k2 : (mapsRowed Try.pinned.checked.prog) = true := f_maps
theorem k3 : (Try.f10.params.all (Try.pinned.checked.prog.readableRec ·)) = true := by kernel_rfl
theorem k4 : (namedTie Try.pinned.checked.prog Rows.feedChunksRow.named Rows.feedChunksSpec.vars) = true := by kernel_rfl
theorem k5 : ((Rows.feedChunksRow.stops == [])) = true := by kernel_rfl
theorem k6 : (Try.pinned.checked.prog.stops == []) = true := f_stops
theorem k7 : ((Rows.feedChunksRow.knobs == [])) = true := by kernel_rfl
theorem k8 : (Try.pinned.checked.prog.stopKnobs == []) = true := f_knobs
theorem k9 : ((Rows.feedChunksRow.inPlace == Try.pinned.checked.prog.inPlace 10)) = true := by kernel_rfl
theorem k10 : ((Rows.feedChunksRow.unfollowed == Try.pinned.checked.prog.unfollowed 10)) = true := by kernel_rfl
theorem k11 : ((Rows.feedChunksRow.recurses == Try.pinned.checked.prog.recurses 10)) = true := by kernel_rfl
theorem k12 : ((Rows.feedChunksRow.named == Try.pinned.checked.prog.varsNamed 10)) = true := by kernel_rfl
theorem k13 : ((Rows.feedChunksRow.maps == (Try.f10.params.toList ++ Rows.feedChunksSpec.plain.varTypes Try.pinned.checked.prog).any (Try.pinned.checked.prog.mapsRec ·))) = true := by kernel_rfl
theorem k14 : ((Rows.feedChunksRow.ifaces == (Try.f10.params.toList ++ Rows.feedChunksSpec.plain.varTypes Try.pinned.checked.prog).any (Try.pinned.checked.prog.ifacesRec ·))) = true := by kernel_rfl
theorem k15 : ((Rows.feedChunksRow.mapsOut == Try.pinned.checked.prog.mapsAmong Try.f10.resultTypes.toList)) = true := by kernel_rfl
theorem k16 : ((Rows.feedChunksRow.loops == (Try.f10.params.toList ++ Rows.feedChunksSpec.plain.varTypes Try.pinned.checked.prog).any (Try.pinned.checked.prog.loopsFrom ·))) = true := by kernel_rfl
theorem k17 : ((Rows.feedChunksRow.wideKeys == (Try.f10.params.toList ++ Rows.feedChunksSpec.plain.varTypes Try.pinned.checked.prog ++ Try.f10.resultTypes.toList).any (Try.pinned.checked.prog.wideKeysFrom ·))) = true := by kernel_rfl
theorem k18 : (Rows.feedChunksSpec.vars.all (Try.pinned.checked.prog.varReadable ·)) = true := by kernel_rfl
theorem k19 : (Try.f10.resultTypes.all (fun t => Try.pinned.checked.prog.readableRec t && decide (t < Try.pinned.checked.prog.types.size))) = true := by kernel_rfl
theorem k20 : ((Rows.feedChunksRow.ifacesOut == Try.f10.resultTypes.toList.any (Try.pinned.checked.prog.ifacesRec ·))) = true := by kernel_rfl
theorem k21 : ((Rows.feedChunksRow.loopsOut == Try.f10.resultTypes.toList.any (Try.pinned.checked.prog.loopsFrom ·))) = true := by kernel_rfl
theorem k22 : ((Rows.feedChunksRow.plainKeys == Try.pinned.checked.prog.plainKeys)) = true := by kernel_rfl
theorem k23 : (Rows.feedChunksRow.shortTexts.isNone) = true := by kernel_rfl
theorem k24 : (Try.pinned.checked.prog.stopsHeard) = true := f_heard
theorem k25 : (Try.pinned.checked.prog.mayEnter) = true := f_enter
theorem k26 : (Rows.feedChunksRow.lifted == Try.pinned.checked.prog.liftsFinal) = true := by rw [f_lifts]; rfl
theorem k27 : (Try.pinned.checked.prog.make == some Rows.feedChunksRow.make) = true := by rw [f_make]; rfl
theorem k28 : ((Rows.feedChunksRow.kinds == (if Rows.feedChunksRow.domain.isEmpty then [] else Try.f10.params.toList.map fun t => match Try.pinned.checked.prog.underlying t with | some (.int k) => some k | _ => none))) = true := by kernel_rfl
theorem k29 : ((Rows.feedChunksRow.pinned == Rows.feedChunksRow.pinnedBy)) = true := by kernel_rfl
theorem k30 : ((Rows.feedChunksRow.veiled == (Try.f10.params.toList ++ Rows.feedChunksSpec.plain.varTypes Try.pinned.checked.prog ++ Try.f10.resultTypes.toList).any (Try.pinned.checked.prog.veiledRec ·))) = true := by kernel_rfl
theorem k31 : (Rows.feedChunksRow.veiledFits Try.pinned.checked.prog Try.f10.params.toList (Try.f10.params.toList ++ Rows.feedChunksSpec.plain.varTypes Try.pinned.checked.prog ++ Try.f10.resultTypes.toList)) = true := by kernel_rfl
theorem o1 : Try.pinned.checked.prog.funcNamed "tachograph/tachographlaw08.FeedChunks" = some 10 := by kernel_rfl
theorem o2 : joinedFacts Try.pinned.checked.prog 10 Try.f10 Rows.feedChunksSpec Rows.feedChunksRow = true := joined_of Try.pinned.checked.prog 10 Try.f10 Rows.feedChunksSpec Rows.feedChunksRow k0 k1 k2 k3 k4 k5 k6 k7 k8 k9 k10 k11 k12 k13 k14 k15 k16 k17 k18 k19 k20 k21 k22 k23 k24 k25 k26 k27 (by kernel_rfl) k29 k30 k31
theorem o3 : Try.f10.isInstance Try.pinned.checked.prog Rows.feedChunksRow.origin Rows.feedChunksRow.targs := of_decide_eq_true (by kernel_rfl)
theorem o4 : Try.f10.isWrapper Try.pinned.checked.prog Rows.feedChunksRow.wrapper Rows.feedChunksRow.mainSum := by unfold Func.isWrapper; first | (rw [if_pos (by decide +kernel)]; kernel_rfl) | (rw [if_neg (by decide +kernel)]; exact ⟨rfl, rfl⟩)
theorem over : Rows.feedChunksRow.holds Try.pinned (OpenSpec.ofChange Rows.feedChunksSpec) :=
  OpenClaim.holds_of_wide 10 Try.f10 rfl rfl rfl rfl rfl rfl rfl ⟨rfl, rfl, rfl, rfl, rfl⟩ rfl rfl rfl rfl rfl o1 Try.func10 o2 o3 o4 (fun os started H enc _ => lifted os started H enc)
theorem proved : Rows.FeedChunksSaid := over
#print axioms proved
end Go.Proofs.Ytepnillddlemaaa.feedChunks
namespace Go.Proofs.Ytepnillddlemaaa
/-- The row, under a short name, for the claim. -/
theorem feedChunks_holds : Rows.FeedChunksSaid := feedChunks.proved
end Go.Proofs.Ytepnillddlemaaa
