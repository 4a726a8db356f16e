/-
  txn.writes.
-/
import Derived.Test.YtnjgddckejpddaaGreatDoorTxnS
namespace Go.Proofs.YtnjgddckejpddaaGreatDoor
open Go.RowKit Go.Proofs.YtnjgddckejpddaaGreatDoor.Sep

set_option maxRecDepth 100000 in
set_option maxHeartbeats 1000000 in
theorem writes_put (HSp : SplitSpec) (HSo : SortSpec) (HCo : CompactSpec) (HCt : ContainsSpec) {s : Out} {w : World} {tb bs bb : Nat} {r : Req} {tries : Nat} {τ : TryS} {R : Hp}
    (h : Sat s w (TxnTry tb bs bb r tries τ * R)) (hk : r.kind = 1) (hs : (τ.val ⟨#[100]⟩).1.size ≤ 900000) (hn : r.name.size ≤ 1048576)
    (hj : ∀ l', WithOk (parts (τ.val ⟨#[100]⟩).1) r.name l' → l'.length ≤ 1048576 ∧ (join l').size ≤ 1048576) :
    Calls Tryz.prog 44 #[.pointer (some ⟨tb, 0, none⟩)] w fun e w' => ∃ v ws ec, e = .returned (.tuple #[v, .int .i64 ec]) ∧
      SetOk (parts (τ.val ⟨#[100]⟩).1) r.name ⟨#[100]⟩ ⟨#[102]⟩ r.text 8 ws ec ∧ Fresh w w' (Row 73 3 v ws.length (cellsOf Wr.cells ws)) := by
  have HS := hid (set_calls HSp HSo HCo HCt ⟨#[100]⟩ ⟨#[102]⟩ r.text 8 h hs hn (by decide) hj)
  obtain ⟨tv, gb, ges, gc, _, h2⟩ := TxnTry.open_ h
  have c2 : w.cell? ⟨tb, 2, none⟩ = some (.int .i64 r.kind) := h2.cell rfl
  have c4 : w.cell? ⟨tb, 4, none⟩ = some (.string r.text) := h2.cell rfl
  rw [hk] at c2
  clear h h2 hj hs
  go_enter Tryz.func44, Tryz.ntmps44
  go_wp2_with (go_at_call 57; (with_reducible refine HS.out.mono ?_); rintro e w' ⟨v, ws, ec, rfl, hset, hf⟩; obtain ⟨_, _, a, cap, rfl, _, _⟩ := Row.len hf; have HF := hid hf; have HSet := hid hset; clear hf hset)
  go_ret2
  exact ⟨_, ws, ec, rfl, HSet.out, HF.out⟩

end Go.Proofs.YtnjgddckejpddaaGreatDoor
