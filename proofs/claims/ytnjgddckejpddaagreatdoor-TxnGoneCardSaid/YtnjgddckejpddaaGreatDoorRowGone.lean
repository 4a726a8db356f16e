/-
  A fragment that goes while another one is put, or appended to, is gone, or is there: the law's row and its card.
-/
import Derived.Test.YtnjgddckejpddaaGreatDoorRows
import Derived.Test.YtnjgddckejpddaaGreatDoorCards
import Derived.Test.YtnjgddckejpddaaGreatDoorTie
import Derived.Test.YtnjgddckejpddaaGreatDoorGoneW
import Derived.WalkKit
import Derived.ProofKit
import Derived.OpenShut
import Derived.LaidMore
import Derived.Lay
import Derived.SevenTiedAt
import Derived.Stop.Joined
import Derived.Lib.SmallJoins
namespace Go.Proofs.YtnjgddckejpddaaGreatDoor.txnGone
open Go.ChangeShapes Go.WideShapes Go.ChangeAt Go.RowKit Go.Joins
open Go.ChangeMaps (open_string)
set_option maxRecDepth 100000

theorem own : ownKnob Tryz.prog.godebug = none := by kernel_rfl
theorem laidOut : laidOutB Tryz.prog = true := by kernel_rfl
theorem read_bool : Tryz.prog.readableRec 4 = true := by kernel_rfl
theorem row_bool : 4 < Tryz.prog.types.size := of_decide_eq_true (by kernel_rfl)
theorem read_ints : Tryz.prog.readableRec 22 = true := by kernel_rfl
theorem row_ints : 22 < Tryz.prog.types.size := of_decide_eq_true (by kernel_rfl)
theorem cells_int : Tryz.prog.cellsOf 3 = 1 := by kernel_rfl
theorem ints_of {W : World} {H : Type} {enc : TypeId × Value → H} {v : Value} {d : DataW H} {p : List MemPlace} {base : Nat} (hv : Value.okWide Tryz.prog W .any base 22 v) (h : DataW.Trod enc Tryz.prog W 0 (fun _ => true) true 22 v d p) : ∃ zs, Ints W v zs := by
  obtain ⟨a0, len, cap, rfl⟩ := okWide_slice Tryz.underlying22 hv
  obtain ⟨fuel, hf⟩ := h
  rcases open_ints Tryz.underlying22 Tryz.underlying3 cells_int hf with ⟨hcs, _⟩ | ⟨a, len', cap', zs, hcs, _, hl, hm, hz, _, hcell, hwz⟩
  · have : Value.slice a0 len cap = .slice none 0 0 := by simpa [Value.cells] using hcs
    rw [this]
    exact ⟨[], none, 0, rfl, Nat.zero_le _, fun j z hj => by simp at hj, fun z hz => by cases hz⟩
  · have : Value.slice a0 len cap = .slice (some a) len' cap' := by simpa [Value.cells] using hcs
    rw [this]
    rw [if_pos rfl] at hz
    have hlen : (zs.take len').length = len' := by rw [List.length_take]; omega
    refine ⟨zs.take len', some a, cap', by rw [hlen], by rw [hlen]; omega, fun j z hj => ?_, fun z hz2 => Go.bounds_i64 (hwz z (List.mem_of_mem_take hz2))⟩
    have hjl : j < len' := by
      rcases Nat.lt_or_ge j len' with h | h
      · exact h
      · rw [List.getElem?_eq_none (by omega)] at hj; cases hj
    have h1 := hcell j (by omega)
    rw [List.getElem?_take_of_lt hjl] at hj
    rw [List.getD_eq_getElem?_getD, hj] at h1
    obtain ⟨b, off, sp⟩ := a
    have hsp : sp = none := by simpa [Addr.add] using World.cell?_spot (hcell 0 (by omega))
    subst hsp
    rw [Sep.add_none] at h1
    refine ⟨b, off, rfl, ?_, h1⟩
    rcases Nat.lt_or_ge b W.heap.size with h | h
    · exact h
    · exfalso
      have : W.cell? ⟨b, off + j, none⟩ = none := by
        unfold World.cell?
        simp [Array.getElem?_eq_none h]
      rw [this] at h1; cases h1

theorem lifted (os : Os) (started : os.Started) (H : Type) (enc : TypeId × Value → H) :
    ReturnsInHanded {} Tryz.checked os 4 .any (fun w args => (Rows.txnGoneSpec.pre enc Tryz.prog Tryz.f4 Rows.txnGoneRow.domain false w args ∧ laidMetH Tryz.prog Rows.txnGoneRow.laid w) ∧ sizedMet enc Tryz.prog Tryz.f4 (OpenSpec.ofChange Rows.txnGoneSpec) false w args)
      (Rows.txnGoneSpec.post enc Tryz.prog Tryz.f4 false true false false) := by
  refine returnsInHanded_of_change_and (C := Tryz.checked) (X := fun w _ => laidMetH Tryz.prog Rows.txnGoneRow.laid w) (fun _ _ _ hh h => h.of_heap hh) own started (by kernel_rfl) Tryz.func4
    (ChangeSpec.witness_shaped (enc := enc) (C := Tryz.checked) (os := os) (X := fun w _ => laidMetH Tryz.prog Rows.txnGoneRow.laid w) false (World.laidAll Tryz.prog os Rows.txnGoneRow.laid) #[.slice none 0 0, .bool false] 8 (World.laidAll_os _ _ _)
      (World.shaped_of_ZipB (by kernel_rfl) (by kernel_rfl)) (by kernel_rfl) (by kernel_rfl) (by kernel_rfl)
      (by rw [MakeChecks.laidMetH_plain _ _ _ (by kernel_rfl)]; exact laidMet_laidAll _ (by kernel_rfl) (by kernel_rfl))) ?_
  intro W base args ds gs before hval0 hW _ _ _ _
  have hval : ∀ (j : Nat) t v, Tryz.f4.params[j]? = some t → args[j]? = some v → Value.okWide Tryz.prog W .any base t v := hval0
  have hW' := hW
  obtain ⟨p, q, hA0, hV, rfl, _, _⟩ := hW
  have hA : DataW.TrodAll enc Tryz.prog W 0 (fun _ => true) true Tryz.f4.params.toList args.toList ds p := hA0
  rw [Tryz.params4] at hA hval
  obtain ⟨v0, vs0, d0, ds0, p0, q0, hargs, rfl, rfl, h0, r0⟩ := trodAll_cons hA
  obtain ⟨v1, vs1, d1, ds1, p1, q1, rfl, rfl, rfl, h1, r1⟩ := trodAll_cons r0
  obtain ⟨rfl, rfl, rfl⟩ := trodAll_nil r1
  obtain rfl : args = #[v0, v1] := by cases args; simp_all
  obtain ⟨rfl, rfl⟩ := trodVars_none hV
  have g0 := h0
  have g1 := h1
  obtain ⟨z0, i0⟩ := ints_of (hval 0 22 v0 rfl rfl) h0
  obtain ⟨x1, rfl, _, _⟩ := open_bool Tryz.underlying4 (hval 1 4 v1 rfl rfl) h1
  clear hA0 hval0
  simp only [List.append_nil] at hW'
  have hlt : ∀ x ∈ p0 ++ p1, x.block < W.heap.size := fun x hx => hW'.lt x hx
  refine (gone_walk v0 z0 x1 W i0).mono fun e W' ⟨he, hg⟩ => ?_
  subst he
  refine ⟨_, rfl, _, _, _, [], p0 ++ p1, [], hW', trodAll_mk1 (shut_bool Tryz.underlying4 _), ?_, rfl, hg.frame _, fun h => by cases h⟩
  have hall := (trodAll_cons_mk (Below.trod laidOut read_ints row_ints g0 hg fun x hx => hlt x (List.mem_append_left _ hx)) (trodAll_cons_mk (Below.trod laidOut read_bool row_bool g1 hg fun x hx => hlt x (List.mem_append_right _ hx)) trodAll_mk0))
  simp only [List.append_nil] at hall
  exact hall

theorem named : Tryz.pinned.checked.prog.funcNamed Rows.txnGoneRow.func = some 4 := by kernel_rfl
theorem facts : joinedFacts Tryz.pinned.checked.prog 4 Tryz.f4 Rows.txnGoneSpec Rows.txnGoneRow = true := by kernel_rfl
theorem inst : Tryz.f4.isInstance Tryz.pinned.checked.prog Rows.txnGoneRow.origin Rows.txnGoneRow.targs := of_decide_eq_true (by kernel_rfl)
theorem wrap : Tryz.f4.isWrapper Tryz.pinned.checked.prog Rows.txnGoneRow.wrapper Rows.txnGoneRow.mainSum := by
  unfold Func.isWrapper
  rw [if_neg (of_decide_eq_false (by kernel_rfl))]
  exact ⟨rfl, rfl⟩

theorem over : Rows.TxnGoneSaid :=
  OpenClaim.holds_of_wide 4 Tryz.f4 rfl rfl rfl rfl rfl rfl rfl ⟨rfl, rfl, rfl, rfl, rfl⟩ rfl rfl rfl rfl rfl named Tryz.func4 facts inst wrap
    (fun os started H enc _ => lifted os started H enc)

theorem card : Rows.TxnGoneCardSaid :=
  Claim7.holds_tied_plain_at .later [] [.data, .data, .data, .data, .sentinel, .sentinel, .listed, .data, .pinned] true Rows.txnGoneCard.stood.harness true
    over (fun _ h => by cases h) (by kernel_rfl) (fun _ h => by cases h) txnGone_row_tie rfl ⟨rfl, rfl⟩ (by kernel_rfl) rfl
    (fun f fn hf hfn => by
      obtain rfl : f = 4 := Option.some.inj ((show Tryz.prog.funcNamed "letterpress/letterpresslaw10.TxnGone" = some 4 by kernel_rfl).symm.trans hf) |>.symm
      obtain rfl : fn = Tryz.f4 := (Option.some.inj (Tryz.func4.symm.trans hfn)).symm
      exact ⟨by kernel_rfl, fun j t ht => by
        rw [Tryz.params4] at ht
        have hm : t ∈ [22, 4] := by simpa using Array.mem_of_getElem? ht
        have hall : ([22, 4].all fun u => !Tryz.prog.wantsStandIn u) = true := by kernel_rfl
        exact (show Tryz.prog.wantsStandIn t = false by simpa using List.all_eq_true.1 hall t hm)⟩)
    (by kernel_rfl)
#print axioms card

end Go.Proofs.YtnjgddckejpddaaGreatDoor.txnGone
