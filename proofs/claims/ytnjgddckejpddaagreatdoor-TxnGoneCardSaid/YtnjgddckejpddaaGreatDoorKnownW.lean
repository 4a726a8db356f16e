/-
  The chapter's example: letterpresslaw10.known answers true.
-/
import Derived.Test.YtnjgddckejpddaaGreatDoorKnown
import Derived.Test.YtnjgddckejpddaaGreatDoorTxnD
namespace Go.Proofs.YtnjgddckejpddaaGreatDoor
open Go.RowKit Go.Proofs.YtnjgddckejpddaaGreatDoor.Sep

set_option maxRecDepth 100000 in
set_option maxHeartbeats 2000000 in
theorem known_calls (w : World) : Calls Tryz.prog 7 #[] w fun e w' => e = .returned (.bool true) ∧ Below w.heap.size w w' := by
  have H0 := hid (Sat.old w)
  have hr : rightB (putR ⟨#[109]⟩ ⟨#[120]⟩) = true := by decide
  have HR := hid hr
  have HParts : Hid (∀ W, Calls Tryz.prog 17 #[.string ⟨#[]⟩] W fun e w' => ∃ v, e = .returned v ∧ Fresh W w' (Row 9 1 v 0 [])) := fun W => Parts_calls libS.sp ⟨#[]⟩ W (by decide)
  have HJoin : Hid (∀ W : World, Calls Tryz.prog 22 #[.slice (some ⟨W.heap.size, 0, none⟩) 2 2] (W.alloc (.cells #[.string ⟨#[97]⟩, .string ⟨#[98]⟩] 9)) fun e w' => e = .returned (.string ⟨#[97, 10, 98, 10]⟩) ∧ W.alloc (.cells #[.string ⟨#[97]⟩, .string ⟨#[98]⟩] 9) = w') := fun W => by
    have hf := fresh_strs W [⟨#[97]⟩, ⟨#[98]⟩] (by decide)
    exact Join_calls [⟨#[97]⟩, ⟨#[98]⟩] (.slice (some ⟨W.heap.size, 0, none⟩) 2 2) _ (Row.view hf) (by decide) (by decide)
  have HSm := hid (small_first 100 ⟨#[109]⟩ ⟨#[120]⟩ (by decide))
  clear hr
  go_enter Tryz.func7, Tryz.ntmps7
  go_wp2_with (first
    | (go_at_call 8; (with_reducible refine (New_calls 100 H0.out).mono ?_); rintro e w1 ⟨bs, rfl, h1⟩
       have H1 := hid (StoreB.shut (Rep.new 100) h1)
       clear h1)
    | (go_at_call 9; (with_reducible refine (incrNew_calls H1.out).mono ?_); rintro e w2 ⟨bb, mb, rfl, h2⟩
       have H2 := hid h2
       clear h2)
    | (go_at_call 11; (with_reducible refine (Begin_calls bs bb (putR ⟨#[109]⟩ ⟨#[120]⟩) H2.out).mono ?_); rintro e w3 ⟨tb, rfl, h3⟩
       rw [show TxnIdle tb bs bb (putR ⟨#[109]⟩ ⟨#[120]⟩) 0 false * (BuilderO bb mb #[] 0 (.slice none 0 0) 0 * (StoreB bs (Abs.new 100) * Old w)) = TxnIdle tb bs bb (putR ⟨#[109]⟩ ⟨#[120]⟩) 0 false * (StoreB bs (Abs.new 100) * (BuilderO bb mb #[] 0 (.slice none 0 0) 0 * Old w)) by ac_rfl] at h3
       have H3 := hid h3
       clear h3)
    | (go_at_call 13; (with_reducible refine (stepX1 H3.out HR.out (by decide) (by decide)).mono ?_); rintro e w4 ⟨rfl, h4⟩
       have h4a := h4.alloc doneO
       rw [show pts w4.heap.size doneO * (TxnTry tb bs bb (putR ⟨#[109]⟩ ⟨#[120]⟩) 1 (tauD 0 (⟨#[]⟩, false)) * (StoreB bs (Abs.new 100).pin * (BuilderO bb mb #[] 0 (.slice none 0 0) 0 * Old w))) = TxnTry tb bs bb (putR ⟨#[109]⟩ ⟨#[120]⟩) 1 (tauD 0 (⟨#[]⟩, false)) * (StoreB bs (Abs.new 100).pin * (pts w4.heap.size doneO * (BuilderO bb mb #[] 0 (.slice none 0 0) 0 * Old w))) by ac_rfl] at h4a
       have H4 := hid h4a
       clear h4 h4a)
    | (go_at_call 13; (with_reducible refine (stepX2 H4.out HR.out (by decide) (by decide) (by decide)).mono ?_); rintro e w5 ⟨rfl, h5⟩
       have h5a := h5.alloc (.cells #[.int .i64 0, .string ⟨#[]⟩, .slice none 0 0, .slice none 0 0, .int .i64 1, .bool true] 42 (0, 0))
       have H5 := hid h5a
       clear h5 h5a)
    | (go_at_call 17; (with_reducible refine (HParts.out _).mono ?_); rintro e w6 ⟨v, rfl, hf⟩
       obtain ⟨_, _, a, cap, rfl, _, _⟩ := Row.len hf
       have h6 := H5.out.below hf.below
       have d0 : w6.cell? ⟨w5.heap.size, 0, none⟩ = some (.int .i64 0) := h6.cell rfl
       have d4 : w6.cell? ⟨w5.heap.size, 4, none⟩ = some (.int .i64 1) := h6.cell rfl
       have d5 : w6.cell? ⟨w5.heap.size, 5, none⟩ = some (.bool true) := h6.cell rfl
       have hlt := h6.lt
       have h6' := (h6.right.alloc (.cells #[.string ⟨#[97]⟩, .string ⟨#[98]⟩] 9 (0, 0))).right
       have H6 := hid h6'
       clear h6 h6' hf)
    | (go_at_call 22; (with_reducible refine (HJoin.out _).mono ?_); rintro e w7 ⟨rfl, rfl⟩)
    | (go_at_call 14
       obtain ⟨st, td, gt, h7⟩ := TxnIdle.open_ H6.out
       (with_reducible refine (Tries_calls h7).mono ?_); rintro e w8 ⟨rfl, rfl⟩
       have H7 := hid h7.right
       clear h7)
    | (go_at_call 19; (with_reducible refine (countB_calls H7.out HSm.out).mono ?_); rintro e w9 ⟨σ, hσ, rfl, hb9⟩
       rw [firstA_count hσ]
       have H9 := hid (H7.out.below hb9)
       clear hb9 hσ))
  go_ret
  have h9 := H9.out
  rw [show StoreB bs (firstA 100 ⟨#[109]⟩ ⟨#[120]⟩) * (pts w4.heap.size doneO * (BuilderO bb mb #[] 0 (.slice none 0 0) 0 * Old w)) = Old w * (StoreB bs (firstA 100 ⟨#[109]⟩ ⟨#[120]⟩) * (pts w4.heap.size doneO * BuilderO bb mb #[] 0 (.slice none 0 0) 0)) by ac_rfl] at h9
  exact ⟨rfl, h9.old_below⟩

end Go.Proofs.YtnjgddckejpddaaGreatDoor
