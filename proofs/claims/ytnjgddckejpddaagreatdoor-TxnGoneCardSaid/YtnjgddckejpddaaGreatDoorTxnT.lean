/-
  txn.Step: a request that is over, one that may not be.
-/
import Derived.Test.YtnjgddckejpddaaGreatDoorTxnD
namespace Go.Proofs.YtnjgddckejpddaaGreatDoor
open Go.RowKit Go.Proofs.YtnjgddckejpddaaGreatDoor.Sep

/-- A Done of which nothing is told but an error. -/
abbrev doneE (e : Int) : DoneS := ⟨e, ⟨#[]⟩, none, 0, 0, none, 0, 0, 0, false⟩

set_option maxRecDepth 100000 in
set_option maxHeartbeats 1000000 in
theorem Step_over {s : Out} {w : World} {tb bs bb : Nat} {r : Req} {tries : Nat} {R : Hp} (h : Sat s w (TxnIdle tb bs bb r tries true * R)) :
    Calls Tryz.prog 13 #[.pointer (some ⟨tb, 0, none⟩)] w fun e w' => e = .returned (.tuple #[(doneE 0).val, .bool false]) ∧ Sat s w' (TxnIdle tb bs bb r tries true * R) := by
  obtain ⟨stamp, todo, got, h1⟩ := TxnIdle.open_ h
  have c8 : w.cell? ⟨tb, 8, none⟩ = some (.bool true) := h1.cell rfl
  have H := hid h
  have hlt := h1.lt
  clear h h1
  go_enter Tryz.func13, Tryz.ntmps13
  go_wp2
  refine bodyPost_ret (v := .tuple #[(doneE 0).val, .bool false]) ?_ rfl ?_
  · simp [results, Tryz.results13, go_sem]
  · exact ⟨rfl, (H.out.alloc _).right⟩

set_option maxRecDepth 100000 in
set_option maxHeartbeats 1000000 in
theorem Step_bad {s : Out} {w : World} {tb bs bb : Nat} {r : Req} {tries : Nat} {R : Hp} (h : Sat s w (TxnIdle tb bs bb r tries false * R)) (hr : rightB r = false) (hn1 : r.name.size ≤ 1099511627776) (hn2 : r.text.size ≤ 1099511627776) :
    Calls Tryz.prog 13 #[.pointer (some ⟨tb, 0, none⟩)] w fun e w' => e = .returned (.tuple #[(doneE 12).val, .bool true]) ∧ Sat s w' (TxnIdle tb bs bb r tries true * R) := by
  obtain ⟨stamp, todo, got, h1⟩ := TxnIdle.open_ h
  have c8 : w.cell? ⟨tb, 8, none⟩ = some (.bool false) := h1.cell rfl
  have c2 : w.cell? ⟨tb, 2, none⟩ = some (.int .i64 r.kind) := h1.cell rfl
  have c3 : w.cell? ⟨tb, 3, none⟩ = some (.string r.name) := h1.cell rfl
  have c4 : w.cell? ⟨tb, 4, none⟩ = some (.string r.text) := h1.cell rfl
  have c5 : w.cell? ⟨tb, 5, none⟩ = some (.int .i64 r.value) := h1.cell rfl
  have hlt := h1.lt
  have H := hid (h1.alloc (.cells #[.int .i64 0, .string ⟨#[]⟩, .slice none 0 0, .slice none 0 0, .int .i64 0, .bool false] 42))
  have HR := hid (right_calls r (w.alloc (.cells #[.int .i64 0, .string ⟨#[]⟩, .slice none 0 0, .slice none 0 0, .int .i64 0, .bool false] 42)) hn1 hn2)
  rw [hr] at HR
  clear h h1
  go_enter Tryz.func13, Tryz.ntmps13
  go_wp2_with (first
    | (go_at_call 23; (with_reducible refine HR.out.mono ?_); rintro e w2 ⟨rfl, hb⟩
       have h2 := H.out.below hb
       rw [show pts w.heap.size (.cells #[.int .i64 0, .string ⟨#[]⟩, .slice none 0 0, .slice none 0 0, .int .i64 0, .bool false] 42) * (TxnO tb bs bb r tries false false stamp todo got * R) =
         TxnO tb bs bb r tries false false stamp todo got * (pts w.heap.size (.cells #[.int .i64 0, .string ⟨#[]⟩, .slice none 0 0, .slice none 0 0, .int .i64 0, .bool false] 42) * R) by ac_rfl] at h2
       have HT := hid (told_calls (doneE 12) h2)
       clear h2 hb)
    | (go_at_call 24; (with_reducible refine HT.out.mono ?_); rintro e w3 ⟨rfl, h3⟩
       rw [show TxnO tb bs bb r tries false true stamp todo got * (pts w.heap.size (.cells #[.int .i64 0, .string ⟨#[]⟩, .slice none 0 0, .slice none 0 0, .int .i64 0, .bool false] 42) * R) =
         pts w.heap.size (.cells #[.int .i64 0, .string ⟨#[]⟩, .slice none 0 0, .slice none 0 0, .int .i64 0, .bool false] 42) * (TxnO tb bs bb r tries false true stamp todo got * R) by ac_rfl] at h3
       have d0 : w3.cell? ⟨w.heap.size, 0, none⟩ = some (.int .i64 0) := h3.cell rfl
       have d1 : w3.cell? ⟨w.heap.size, 1, none⟩ = some (.string ⟨#[]⟩) := h3.cell rfl
       have d2 : w3.cell? ⟨w.heap.size, 2, none⟩ = some (.slice none 0 0) := h3.cell rfl
       have d3 : w3.cell? ⟨w.heap.size, 3, none⟩ = some (.slice none 0 0) := h3.cell rfl
       have d4 : w3.cell? ⟨w.heap.size, 4, none⟩ = some (.int .i64 0) := h3.cell rfl
       have d5 : w3.cell? ⟨w.heap.size, 5, none⟩ = some (.bool false) := h3.cell rfl
       have e0 : w3.frozen? ⟨w.heap.size, 0, none⟩ = false := h3.free
       have e1 : w3.frozen? ⟨w.heap.size, 1, none⟩ = false := h3.free
       have e2 : w3.frozen? ⟨w.heap.size, 2, none⟩ = false := h3.free
       have e3 : w3.frozen? ⟨w.heap.size, 3, none⟩ = false := h3.free
       have e4 : w3.frozen? ⟨w.heap.size, 4, none⟩ = false := h3.free
       have e5 : w3.frozen? ⟨w.heap.size, 5, none⟩ = false := h3.free
       have H3 := hid h3
       clear h3))
  have h4 := (((((H3.out.setCell (off := 0) (.int .i64 12)).setCell (off := 1) (.string ⟨#[]⟩)).setCell (off := 2) (.slice none 0 0)).setCell (off := 3) (.slice none 0 0)).setCell (off := 4) (.int .i64 0)).setCell (off := 5) (.bool false)
  generalize ((((((w3.setCell ⟨w.heap.size, 0, none⟩ (.int .i64 12)).setCell ⟨w.heap.size, 1, none⟩ (.string ⟨#[]⟩)).setCell ⟨w.heap.size, 2, none⟩ (.slice none 0 0)).setCell ⟨w.heap.size, 3, none⟩ (.slice none 0 0)).setCell ⟨w.heap.size, 4, none⟩ (.int .i64 0)).setCell ⟨w.heap.size, 5, none⟩ (.bool false)) = W at *
  have g0 : W.cell? ⟨w.heap.size, 0, none⟩ = some (.int .i64 12) := h4.cell rfl
  have g1 : W.cell? ⟨w.heap.size, 1, none⟩ = some (.string ⟨#[]⟩) := h4.cell rfl
  have g2 : W.cell? ⟨w.heap.size, 2, none⟩ = some (.slice none 0 0) := h4.cell rfl
  have g3 : W.cell? ⟨w.heap.size, 3, none⟩ = some (.slice none 0 0) := h4.cell rfl
  have g4 : W.cell? ⟨w.heap.size, 4, none⟩ = some (.int .i64 0) := h4.cell rfl
  have g5 : W.cell? ⟨w.heap.size, 5, none⟩ = some (.bool false) := h4.cell rfl
  refine bodyPost_ret (v := .tuple #[(doneE 12).val, .bool true]) ?_ rfl ?_
  · simp [results, Tryz.results13, go_sem, g0, g1, g2, g3, g4, g5]
  · exact ⟨rfl, TxnIdle.shut h4.right⟩

end Go.Proofs.YtnjgddckejpddaaGreatDoor
