/-
  store.New; txn.Begin, Tries, Drop, show.
-/
import Derived.Test.YtnjgddckejpddaaGreatDoorTxnC
namespace Go.Proofs.YtnjgddckejpddaaGreatDoor
open Go.RowKit Go.Proofs.YtnjgddckejpddaaGreatDoor.Sep

set_option maxRecDepth 100000 in
set_option maxHeartbeats 400000 in
theorem New_calls (limit : Int) {s : Out} {w : World} {R : Hp} (h : Sat s w R) :
    Calls Tryz.prog 8 #[.int .i64 limit] w fun e w' => ∃ bs, e = .returned (.pointer (some ⟨bs, 0, none⟩)) ∧ Sat s w' (StoreAt bs ⟨limit, 0, [], []⟩ * R) := by
  have hmk : ∀ (t : TypeId) (W : World), (Instr.makeMap t none).run Tryz.prog W = .ok (.map (some W.heap.size)) (W.alloc (.map #[] 0)) := fun _ _ => rfl
  have H := hid h
  clear h
  go_enter Tryz.func8, Tryz.ntmps8
  go_wp2
  go_ret
  refine ⟨_, rfl, ?_⟩
  have h1 := ((H.out.alloc (.map #[] 0)).alloc (.map #[] 0)).alloc (.cells #[.map (some w.heap.size), .int .i64 limit, .int .i64 0, .map (some (w.heap.size + 1))] 62)
  have hz : (w.alloc (.map #[] 0)).heap.size = w.heap.size + 1 := by show (w.heap.push _).size = _; simp
  rw [hz] at h1
  refine StoreAt.shut (bp := w.heap.size) (pes := #[]) (pc := 0) (bk := w.heap.size + 1) (kes := #[]) (kc := 0) (rows := []) ?_ (holds_empty _) (holds_empty _) rfl
  unfold StoreO
  rw [show bigstar rowHp ([] : RowsT) = emp from rfl, mul_emp]
  have hz2 : ((w.alloc (.map #[] 0)).alloc (.map #[] 0)).heap.size = w.heap.size + 1 + 1 := by show ((w.heap.push _).push _).size = _; simp
  rw [hz2] at h1
  rw [show pts (w.heap.size + 1 + 1) (.cells #[.map (some w.heap.size), .int .i64 limit, .int .i64 0, .map (some (w.heap.size + 1))] 62) * (pts (w.heap.size + 1) (.map #[] 0) * (pts w.heap.size (.map #[] 0) * R)) =
    pts (w.heap.size + 1 + 1) (.cells #[.map (some w.heap.size), .int .i64 limit, .int .i64 0, .map (some (w.heap.size + 1))] 62) * (pts w.heap.size (.map #[] 0) * pts (w.heap.size + 1) (.map #[] 0)) * R by ac_rfl] at h1
  exact h1

set_option maxRecDepth 100000 in
set_option maxHeartbeats 400000 in
theorem Begin_calls (bs bb : Nat) (r : Req) {s : Out} {w : World} {R : Hp} (h : Sat s w R) :
    Calls Tryz.prog 11 #[.pointer (some ⟨bs, 0, none⟩), .pointer (some ⟨bb, 0, none⟩), r.val] w fun e w' => ∃ tb, e = .returned (.pointer (some ⟨tb, 0, none⟩)) ∧ Sat s w' (TxnIdle tb bs bb r 0 false * R) := by
  have H := hid h
  clear h
  go_enter Tryz.func11, Tryz.ntmps11
  go_wp2
  go_ret
  refine ⟨_, rfl, ?_⟩
  refine TxnIdle.shut (stamp := 0) (todo := .slice none 0 0) (got := .map none) ?_
  have h1 := (H.out.alloc (.cells #[.int .i64 r.kind, .string r.name, .string r.text, .int .i64 r.value] 32)).right.alloc (.cells #[.pointer (some ⟨bs, 0, none⟩), .pointer (some ⟨bb, 0, none⟩),
          .int .i64 r.kind, .string r.name, .string r.text, .int .i64 r.value, .int .i64 0, .bool false, .bool false, .int .i64 0, .slice none 0 0, .map none] 68)
  have hz : (w.alloc (.cells #[.int .i64 r.kind, .string r.name, .string r.text, .int .i64 r.value] 32)).heap.size = w.heap.size + 1 := by show (w.heap.push _).size = _; simp
  rw [hz] at h1
  exact h1

set_option maxRecDepth 100000 in
set_option maxHeartbeats 400000 in
theorem Tries_calls {s : Out} {w : World} {tb bs bb : Nat} {r : Req} {tries : Nat} {trying over : Bool} {stamp : Int} {todo got : Value} {R : Hp} (h : Sat s w (TxnO tb bs bb r tries trying over stamp todo got * R)) :
    Calls Tryz.prog 14 #[.pointer (some ⟨tb, 0, none⟩)] w fun e w' => e = .returned (.int .i64 tries) ∧ w = w' := by
  have c6 : w.cell? ⟨tb, 6, none⟩ = some (.int .i64 tries) := h.cell rfl
  clear h
  go_enter Tryz.func14, Tryz.ntmps14
  go_wp2
  go_ret
  exact ⟨rfl, rfl⟩

set_option maxRecDepth 100000 in
set_option maxHeartbeats 400000 in
theorem Drop_idle {s : Out} {w : World} {tb bs bb : Nat} {r : Req} {tries : Nat} {over : Bool} {R : Hp} (h : Sat s w (TxnIdle tb bs bb r tries over * R)) :
    Calls Tryz.prog 21 #[.pointer (some ⟨tb, 0, none⟩)] w fun e w' => e = .returned (.tuple #[]) ∧ Sat s w' (TxnIdle tb bs bb r tries true * R) := by
  obtain ⟨stamp, todo, got, h1⟩ := TxnIdle.open_ h
  have c7 : w.cell? ⟨tb, 7, none⟩ = some (.bool false) := h1.cell rfl
  have c8 : w.cell? ⟨tb, 8, none⟩ = some (.bool over) := h1.cell rfl
  have f8 : w.frozen? ⟨tb, 8, none⟩ = false := h1.free
  have H := hid h1
  clear h h1
  go_enter Tryz.func21, Tryz.ntmps21
  go_wp2
  go_end0
  exact ⟨rfl, TxnIdle.shut (H.out.setCell (off := 8) (.bool true))⟩

set_option maxRecDepth 100000 in
set_option maxHeartbeats 400000 in
theorem Drop_try {s : Out} {w : World} {tb bs bb : Nat} {r : Req} {tries : Nat} {τ : TryS} {σ : StoreS} {R : Hp} (h : Sat s w (TxnTry tb bs bb r tries τ * (StoreAt bs σ * R)))
    (hn : -1099511627776 ≤ (aget (τ.stamp : Int) σ.pins).getD 0 ∧ (aget (τ.stamp : Int) σ.pins).getD 0 ≤ 1099511627776) :
    Calls Tryz.prog 21 #[.pointer (some ⟨tb, 0, none⟩)] w fun e w' => e = .returned (.tuple #[]) ∧ Sat s w' (TxnIdle tb bs bb r tries true * (StoreAt bs (σ.unpin τ.stamp) * R)) := by
  obtain ⟨tv, gb, ges, gc, _, h0⟩ := TxnTry.open_ h
  have h1 : Sat s w (TxnO tb bs bb r tries true false τ.stamp tv (.map (some gb)) * (StoreAt bs σ * R)) := by
    rw [show TxnO tb bs bb r tries true false τ.stamp tv (.map (some gb)) * (Row 9 1 tv τ.todo.length (strs τ.todo) * (pts gb (.map ges gc) * (StoreAt bs σ * R))) =
      Row 9 1 tv τ.todo.length (strs τ.todo) * (pts gb (.map ges gc) * (TxnO tb bs bb r tries true false τ.stamp tv (.map (some gb)) * (StoreAt bs σ * R))) by ac_rfl] at h0
    exact h0.right.right
  have c7 : w.cell? ⟨tb, 7, none⟩ = some (.bool true) := h1.cell rfl
  have f7 : w.frozen? ⟨tb, 7, none⟩ = false := h1.free
  have h2 : Sat s (w.setCell ⟨tb, 7, none⟩ (.bool false)) (TxnO tb bs bb r tries false false τ.stamp tv (.map (some gb)) * (StoreAt bs σ * R)) := h1.setCell (off := 7) (.bool false)
  have q0 : (w.setCell ⟨tb, 7, none⟩ (.bool false)).drew.cell? ⟨tb, 0, none⟩ = some (.pointer (some ⟨bs, 0, none⟩)) ∧ (w.setCell ⟨tb, 7, none⟩ (.bool false)).drew.cell? ⟨tb, 9, none⟩ = some (.int .i64 τ.stamp) := ⟨h2.drew.cell rfl, h2.drew.cell rfl⟩
  rw [show TxnO tb bs bb r tries false false τ.stamp tv (.map (some gb)) * (StoreAt bs σ * R) = StoreAt bs σ * (TxnO tb bs bb r tries false false τ.stamp tv (.map (some gb)) * R) by ac_rfl] at h2
  have HU := hid (Unpin_sat h2.drew τ.stamp hn)
  clear h h0 h1 h2 hn
  go_enter Tryz.func21, Tryz.ntmps21
  go_wp2
  go_region_held3 (fun w' => w'.cell? ⟨tb, 0, none⟩ = some (.pointer (some ⟨bs, 0, none⟩)) ∧ w'.cell? ⟨tb, 9, none⟩ = some (.int .i64 τ.stamp)) (with_reducible first | exact q0 | exact q1)
    (first | (go_at_call 34; ((with_reducible refine HU.out.mono ?_); rintro e w' ⟨rfl, hU⟩; rw [show StoreAt bs (σ.unpin τ.stamp) * (TxnO tb bs bb r tries false false τ.stamp tv (.map (some gb)) * R) = TxnO tb bs bb r tries false false τ.stamp tv (.map (some gb)) * (StoreAt bs (σ.unpin τ.stamp) * R) by ac_rfl] at hU; have hU2 := hid hU; have q1 : w'.cell? ⟨tb, 0, none⟩ = some (.pointer (some ⟨bs, 0, none⟩)) ∧ w'.cell? ⟨tb, 9, none⟩ = some (.int .i64 τ.stamp) := ⟨hU.cell rfl, hU.cell rfl⟩; clear hU)))
  have c8 : w'.cell? ⟨tb, 8, none⟩ = some (.bool false) := hU2.out.cell rfl
  have f8 : w'.frozen? ⟨tb, 8, none⟩ = false := hU2.out.free
  go_wp2
  go_end0
  exact ⟨rfl, TxnIdle.shut (hU2.out.setCell (off := 8) (.bool true))⟩

end Go.Proofs.YtnjgddckejpddaaGreatDoor
