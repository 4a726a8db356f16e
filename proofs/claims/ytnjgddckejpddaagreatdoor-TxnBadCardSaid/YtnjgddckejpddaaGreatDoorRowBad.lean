/-
  A request that may not be is refused at its first Step, and touches nothing: the law's row and its card.
-/
import Derived.Test.YtnjgddckejpddaaGreatDoorRows
import Derived.Test.YtnjgddckejpddaaGreatDoorCards
import Derived.Test.YtnjgddckejpddaaGreatDoorTie
import Derived.Test.YtnjgddckejpddaaGreatDoorBadW
import Derived.WalkKit
import Derived.ProofKit
import Derived.OpenShut
import Derived.LaidMore
import Derived.Lay
import Derived.SevenTiedAt
import Derived.Stop.Joined
import Derived.Lib.SmallJoins
namespace Go.Proofs.YtnjgddckejpddaaGreatDoor.txnBad
open Go.ChangeShapes Go.WideShapes Go.ChangeAt Go.RowKit Go.Joins

theorem own : ownKnob Tryz.prog.godebug = none := by kernel_rfl
theorem laidOut : laidOutB Tryz.prog = true := by kernel_rfl
theorem cells32 : Tryz.prog.cellsOf 32 = 4 := by kernel_rfl
theorem readReq : Tryz.prog.readableRec 32 = true := by kernel_rfl
theorem readInt : Tryz.prog.readableRec 3 = true := by kernel_rfl
theorem rowReq : 32 < Tryz.prog.types.size := of_decide_eq_true (by kernel_rfl)
theorem rowInt : 3 < Tryz.prog.types.size := of_decide_eq_true (by kernel_rfl)

set_option maxRecDepth 100000 in
theorem lifted (os : Os) (started : os.Started) (H : Type) (enc : TypeId × Value → H) :
    ReturnsInHanded {} Tryz.checked os 5 .any (fun w args => (Rows.txnBadSpec.pre enc Tryz.prog Tryz.f5 Rows.txnBadRow.domain false w args ∧ laidMetH Tryz.prog Rows.txnBadRow.laid w) ∧ sizedMet enc Tryz.prog Tryz.f5 (OpenSpec.ofChange Rows.txnBadSpec) false w args)
      (Rows.txnBadSpec.post enc Tryz.prog Tryz.f5 false true false false) := by
  refine returnsInHanded_of_change_and (C := Tryz.checked) (X := fun w _ => laidMetH Tryz.prog Rows.txnBadRow.laid w) (fun _ _ _ hh h => h.of_heap hh) own started (by kernel_rfl) Tryz.func5
    (ChangeSpec.witness_shaped (enc := enc) (C := Tryz.checked) (os := os) (X := fun w _ => laidMetH Tryz.prog Rows.txnBadRow.laid w) false (World.laidAll Tryz.prog os Rows.txnBadRow.laid) #[.agg #[.int .i64 0, .string ⟨#[]⟩, .string ⟨#[]⟩, .int .i64 0], .int .i64 0] 8 (World.laidAll_os _ _ _)
      (World.shaped_of_ZipB (by kernel_rfl) (by kernel_rfl)) (by kernel_rfl) (by kernel_rfl) (by kernel_rfl)
      (by rw [MakeChecks.laidMetH_plain _ _ _ (by kernel_rfl)]; exact laidMet_laidAll _ (by kernel_rfl) (by kernel_rfl))) ?_
  intro W base args ds gs before hval0 hW hc _ _ _
  have hval : ∀ (j : Nat) t v, Tryz.f5.params[j]? = some t → args[j]? = some v → Value.okWide Tryz.prog W .any base t v := hval0
  have hW' := hW
  obtain ⟨p, q, hA0, hV, rfl, _, _⟩ := hW
  have hA : DataW.TrodAll enc Tryz.prog W 0 (fun _ => true) true Tryz.f5.params.toList args.toList ds p := hA0
  rw [Tryz.params5] at hA hval
  obtain ⟨v0, v1, d0, d1, p0, p1, rfl, rfl, rfl, h0, h1⟩ := trodAll_two hA
  obtain ⟨rfl, rfl⟩ := trodVars_none hV
  have h0' := h0
  have h1' := h1
  obtain ⟨c0, c1, c2, c3, y0, y1, y2, y3, m, rfl, rfl, _, hy0, hy1, hy2, hy3⟩ := open_agg4 Tryz.underlying32 (by kernel_rfl) cells32 (hval 0 32 v0 rfl rfl) h0
  obtain ⟨k, e0, _, wk⟩ := DataW.trod_int Tryz.underlying3 hy0
  obtain ⟨nm, e1, _, wn⟩ := DataW.trod_string Tryz.underlying9 hy1
  obtain ⟨tx, e2, _, wt⟩ := DataW.trod_string Tryz.underlying9 hy2
  obtain ⟨vl, e3, _, wv⟩ := DataW.trod_int Tryz.underlying3 hy3
  simp at e0 e1 e2 e3
  subst e0 e1 e2 e3
  obtain ⟨n, rfl, _, _, wn1⟩ := open_int Tryz.underlying3 (hval 1 3 v1 rfl rfl) h1
  clear hA0 hval0
  simp only [List.append_nil] at hW'
  have hlt : ∀ x ∈ p0 ++ p1, x.block < W.heap.size := fun x hx => hW'.lt x hx
  refine (bad_walk ⟨k, nm, tx, vl⟩ n W (Go.bounds_i64 wn1) wn wt).mono fun e W' ⟨he, hg⟩ => ?_
  subst he
  exact ⟨_, rfl, _, _, _, [], p0 ++ p1, [], hW', trodAll_mk1 (shut_bool Tryz.underlying4 _), trodAll_mk2 (Below.trod laidOut readReq rowReq h0' hg fun x hx => hlt x (List.mem_append_left _ hx)) (Below.trod laidOut readInt rowInt h1' hg fun x hx => hlt x (List.mem_append_right _ hx)), rfl, hg.frame _, fun h => by cases h⟩

theorem named : Tryz.pinned.checked.prog.funcNamed Rows.txnBadRow.func = some 5 := by kernel_rfl
theorem facts : joinedFacts Tryz.pinned.checked.prog 5 Tryz.f5 Rows.txnBadSpec Rows.txnBadRow = true := by kernel_rfl
theorem inst : Tryz.f5.isInstance Tryz.pinned.checked.prog Rows.txnBadRow.origin Rows.txnBadRow.targs := of_decide_eq_true (by kernel_rfl)
theorem wrap : Tryz.f5.isWrapper Tryz.pinned.checked.prog Rows.txnBadRow.wrapper Rows.txnBadRow.mainSum := by
  unfold Func.isWrapper
  rw [if_neg (of_decide_eq_false (by kernel_rfl))]
  exact ⟨rfl, rfl⟩

theorem over : Rows.TxnBadSaid :=
  OpenClaim.holds_of_wide 5 Tryz.f5 rfl rfl rfl rfl rfl rfl rfl ⟨rfl, rfl, rfl, rfl, rfl⟩ rfl rfl rfl rfl rfl named Tryz.func5 facts inst wrap
    (fun os started H enc _ => lifted os started H enc)

theorem card : Rows.TxnBadCardSaid :=
  Claim7.holds_tied_plain_at .later [] [.data, .data, .data, .data, .sentinel, .sentinel, .listed, .data, .pinned] true Rows.txnBadCard.stood.harness true
    over (fun _ h => by cases h) (by kernel_rfl) (fun _ h => by cases h) txnBad_row_tie rfl ⟨rfl, rfl⟩ (by kernel_rfl) rfl
    (fun f fn hf hfn => by
      obtain rfl : f = 5 := Option.some.inj ((show Tryz.prog.funcNamed "letterpress/letterpresslaw10.TxnBad" = some 5 by kernel_rfl).symm.trans hf) |>.symm
      obtain rfl : fn = Tryz.f5 := (Option.some.inj (Tryz.func5.symm.trans hfn)).symm
      exact ⟨by kernel_rfl, fun j t ht => by
        rw [Tryz.params5] at ht
        have hm : t ∈ [32, 3] := by simpa using Array.mem_of_getElem? ht
        have hall : ([32, 3].all fun u => !Tryz.prog.wantsStandIn u) = true := by kernel_rfl
        exact (show Tryz.prog.wantsStandIn t = false by simpa using List.all_eq_true.1 hall t hm)⟩)
    (by kernel_rfl)
#print axioms card

end Go.Proofs.YtnjgddckejpddaaGreatDoor.txnBad
