/-
  txn.last of a request that writes: done; refused; its try has failed; busy; no room.
-/
import Derived.Test.YtnjgddckejpddaaGreatDoorTxnX
import Derived.Test.YtnjgddckejpddaaGreatDoorLastG
namespace Go.Proofs.YtnjgddckejpddaaGreatDoor
open Go.RowKit Go.Proofs.YtnjgddckejpddaaGreatDoor.Sep


set_option maxRecDepth 100000 in
set_option maxHeartbeats 4000000 in
theorem last_err (HSK : SortedKeysSpec) {s : Out} {w : World} {tb bs bb : Nat} {r : Req} {tries : Nat} {τ : TryS} {σ : StoreS} {R : Hp} (WOk : List Wr → Int → Prop)
    (h : Sat s w (TxnTry tb bs bb r tries τ * (StoreAt bs σ * R))) (hk : r.kind = 1 ∨ r.kind = 2 ∨ r.kind = 3 ∨ r.kind = 5 ∨ r.kind = 6) (HWr : WritesSpec tb bs bb r tries τ WOk)
    
    (hpn : -1099511627776 ≤ (aget (τ.stamp : Int) σ.pins).getD 0 ∧ (aget (τ.stamp : Int) σ.pins).getD 0 ≤ 1099511627776)
    (hlst : 0 ≤ (σ.unpin τ.stamp).least) (hkl : σ.count ≤ 549755813888 ∧ KeysOk σ)
    (hroom : ∀ ws ec, WOk ws ec → (ec == 0) = false) :
    Calls Tryz.prog 27 #[.pointer (some ⟨tb, 0, none⟩)] w fun e w' => ∃ ws ec ks, WOk ws ec ∧ ks.Perm (σ.keys.map (·.1)) ∧ e = .returned (.tuple #[({ doneE ec with stamp := τ.stamp } : DoneS).val, .bool true]) ∧
      Sat s w' (TxnIdle tb bs bb r tries true * (StoreAt bs (σ.ended τ.stamp ks) * R)) := by
  have hd := h.alloc doneO
  rw [show pts w.heap.size doneO * (TxnTry tb bs bb r tries τ * (StoreAt bs σ * R)) = TxnTry tb bs bb r tries τ * (StoreAt bs σ * (pts w.heap.size doneO * R)) by ac_rfl] at hd
  have HW := hid (HWr _ _ _ hd)
  have HD := hid hd
  obtain ⟨tv, gb, ges, gc, h1, h2⟩ := TxnTry.open_ hd
  have c2 : (w.alloc doneO).cell? ⟨tb, 2, none⟩ = some (.int .i64 r.kind) := h2.cell rfl
  have hnf : ∀ W, (binOp .neq 88 .nilFunc .nilFunc).run Tryz.prog W = .ok (.bool false) W := fun _ => by kernel_rfl
  clear h h2 hd h1 HWr
  rcases hk with hk | hk | hk | hk | hk
  all_goals
    rw [hk] at c2
    go_enter_defers Tryz.func27, Tryz.ntmps27
    go_wp2_with (first
        | (go_at_call 44; (with_reducible refine HW.out.mono ?_); rintro e w2 ⟨v, ws, ec, rfl, hset, hf⟩
           have hec := hroom ws ec hset
           obtain ⟨_, _, a, cap, rfl, _, _⟩ := Row.len hf
           have h3 := HD.out.fresh hf
           rw [show Row 73 3 (.slice a ws.length cap) ws.length (cellsOf Wr.cells ws) * (TxnTry tb bs bb r tries τ * (StoreAt bs σ * (pts w.heap.size doneO * R))) = TxnTry tb bs bb r tries τ * (StoreAt bs σ * (Row 73 3 (.slice a ws.length cap) ws.length (cellsOf Wr.cells ws) * (pts w.heap.size doneO * R))) by ac_rfl] at h3
           obtain ⟨tv5, gb5, ges5, gc5, hh5, h6⟩ := TxnTry.open_ h3
           have c9 : w2.cell? ⟨tb, 9, none⟩ = some (.int .i64 τ.stamp) := h6.cell rfl
           rw [show TxnO tb bs bb r tries true false τ.stamp tv5 (.map (some gb5)) * (Row 9 1 tv5 τ.todo.length (strs τ.todo) * (pts gb5 (.map ges5 gc5) * (StoreAt bs σ * (Row 73 3 (.slice a ws.length cap) ws.length (cellsOf Wr.cells ws) * (pts w.heap.size doneO * R))))) = Row 9 1 tv5 τ.todo.length (strs τ.todo) * (pts gb5 (.map ges5 gc5) * (Row 73 3 (.slice a ws.length cap) ws.length (cellsOf Wr.cells ws) * (TxnO tb bs bb r tries true false τ.stamp tv5 (.map (some gb5)) * (StoreAt bs σ * (pts w.heap.size doneO * R))))) by ac_rfl] at h6
           have HT := hid (told_calls { doneE ec with stamp := (τ.stamp : Int) } h6.right.right.right)
           have HSet := hid hset
           clear h3 h6 hf hset)
        | (go_at_call 24; (with_reducible refine HT.out.mono ?_); rintro e w3 ⟨rfl, h3⟩
           rw [show TxnO tb bs bb r tries true true τ.stamp tv5 (.map (some gb5)) * (StoreAt bs σ * (pts w.heap.size doneO * R)) = pts w.heap.size doneO * (TxnO tb bs bb r tries true true τ.stamp tv5 (.map (some gb5)) * (StoreAt bs σ * R)) by ac_rfl] at h3
           have d0 : w3.cell? ⟨w.heap.size, 0, none⟩ = some (.int .i64 0) := h3.cell rfl
           have d1 : w3.cell? ⟨w.heap.size, 1, none⟩ = some (.string ⟨#[]⟩) := h3.cell rfl
           have d2 : w3.cell? ⟨w.heap.size, 2, none⟩ = some (.slice none 0 0) := h3.cell rfl
           have d3 : w3.cell? ⟨w.heap.size, 3, none⟩ = some (.slice none 0 0) := h3.cell rfl
           have d4 : w3.cell? ⟨w.heap.size, 4, none⟩ = some (.int .i64 0) := h3.cell rfl
           have d5 : w3.cell? ⟨w.heap.size, 5, none⟩ = some (.bool false) := h3.cell rfl
           have e0 : w3.frozen? ⟨w.heap.size, 0, none⟩ = false := h3.free
           have e1 : w3.frozen? ⟨w.heap.size, 1, none⟩ = false := h3.free
           have e2 : w3.frozen? ⟨w.heap.size, 2, none⟩ = false := h3.free
           have e3 : w3.frozen? ⟨w.heap.size, 3, none⟩ = false := h3.free
           have e4 : w3.frozen? ⟨w.heap.size, 4, none⟩ = false := h3.free
           have e5 : w3.frozen? ⟨w.heap.size, 5, none⟩ = false := h3.free
           have H3' := hid h3
           clear h3))
    have h4 := (((((H3'.out.setCell (off := 0) (.int .i64 ec)).setCell (off := 1) (.string ⟨#[]⟩)).setCell (off := 2) (.slice none 0 0)).setCell (off := 3) (.slice none 0 0)).setCell (off := 4) (.int .i64 (τ.stamp : Int))).setCell (off := 5) (.bool false)
    generalize ((((((w3.setCell ⟨w.heap.size, 0, none⟩ (.int .i64 ec)).setCell ⟨w.heap.size, 1, none⟩ (.string ⟨#[]⟩)).setCell ⟨w.heap.size, 2, none⟩ (.slice none 0 0)).setCell ⟨w.heap.size, 3, none⟩ (.slice none 0 0)).setCell ⟨w.heap.size, 4, none⟩ (.int .i64 (τ.stamp : Int))).setCell ⟨w.heap.size, 5, none⟩ (.bool false)) = W at *
    have h5 : Sat s W (pts w.heap.size (.cells #[.int .i64 ec, .string ⟨#[]⟩, .slice none 0 0, .slice none 0 0, .int .i64 (τ.stamp : Int), .bool false] 42) * (TxnO tb bs bb r tries true true τ.stamp tv5 (.map (some gb5)) * (StoreAt bs σ * R))) := h4
    rw [show pts w.heap.size (.cells #[.int .i64 ec, .string ⟨#[]⟩, .slice none 0 0, .slice none 0 0, .int .i64 (τ.stamp : Int), .bool false] 42) * (TxnO tb bs bb r tries true true τ.stamp tv5 (.map (some gb5)) * (StoreAt bs σ * R)) = TxnO tb bs bb r tries true true τ.stamp tv5 (.map (some gb5)) * (StoreAt bs σ * (pts w.heap.size (.cells #[.int .i64 ec, .string ⟨#[]⟩, .slice none 0 0, .slice none 0 0, .int .i64 (τ.stamp : Int), .bool false] 42) * R)) by ac_rfl] at h5
    obtain ⟨k1, k2⟩ := hkl
    have hpn' := hpn
    have hl' := hlst
    refine leaves_cons (f := 41) (args := #[.pointer (some ⟨tb, 0, none⟩)]) (by simp) (by simp [go_sem]) ?_
    refine (end_deferred HSK .returning h5 hpn' k1 k2 hl').mono ?_
    rintro e u' w'' ⟨rfl, ks, rfl, hp, hS⟩
    rw [show TxnO tb bs bb r tries false true τ.stamp tv5 (.map (some gb5)) * (StoreAt bs (σ.ended τ.stamp ks) * (pts w.heap.size (.cells #[.int .i64 ec, .string ⟨#[]⟩, .slice none 0 0, .slice none 0 0, .int .i64 (τ.stamp : Int), .bool false] 42) * R)) = pts w.heap.size (.cells #[.int .i64 ec, .string ⟨#[]⟩, .slice none 0 0, .slice none 0 0, .int .i64 (τ.stamp : Int), .bool false] 42) * (TxnO tb bs bb r tries false true τ.stamp tv5 (.map (some gb5)) * (StoreAt bs (σ.ended τ.stamp ks) * R)) by ac_rfl] at hS
    have g0 : w''.cell? ⟨w.heap.size, 0, none⟩ = some (.int .i64 ec) := hS.cell rfl
    have g1 : w''.cell? ⟨w.heap.size, 1, none⟩ = some (.string ⟨#[]⟩) := hS.cell rfl
    have g2 : w''.cell? ⟨w.heap.size, 2, none⟩ = some (.slice none 0 0) := hS.cell rfl
    have g3 : w''.cell? ⟨w.heap.size, 3, none⟩ = some (.slice none 0 0) := hS.cell rfl
    have g4 : w''.cell? ⟨w.heap.size, 4, none⟩ = some (.int .i64 (τ.stamp : Int)) := hS.cell rfl
    have g5 : w''.cell? ⟨w.heap.size, 5, none⟩ = some (.bool false) := hS.cell rfl
    refine ⟨.tuple #[({ doneE ec with stamp := τ.stamp } : DoneS).val, .bool true], ?_, ws, _, ks, HSet.out, hp, rfl, TxnIdle.shut hS.right⟩
    simp [results, Tryz.results27, go_sem, g0, g1, g2, g3, g4, g5]

set_option maxRecDepth 100000 in
set_option maxHeartbeats 4000000 in
theorem last_retry (HSK : SortedKeysSpec) {s : Out} {w : World} {tb bs bb : Nat} {r : Req} {tries : Nat} {τ : TryS} {σ : StoreS} {R : Hp} (WOk : List Wr → Int → Prop)
    (h : Sat s w (TxnTry tb bs bb r tries τ * (StoreAt bs σ * R))) (hk : r.kind = 1 ∨ r.kind = 2 ∨ r.kind = 3 ∨ r.kind = 5 ∨ r.kind = 6) (HWr : WritesSpec tb bs bb r tries τ WOk)
    (hch : changedT σ τ = true) (htr : (tries : Int) < 3)
    (hpn : -1099511627776 ≤ (aget (τ.stamp : Int) σ.pins).getD 0 ∧ (aget (τ.stamp : Int) σ.pins).getD 0 ≤ 1099511627776)
    (hlst : 0 ≤ (σ.unpin τ.stamp).least) (hkl : σ.count ≤ 549755813888 ∧ KeysOk σ)
    (hroom : ∀ ws ec, WOk ws ec → ec = 0) :
    Calls Tryz.prog 27 #[.pointer (some ⟨tb, 0, none⟩)] w fun e w' => ∃ ws ec ks, WOk ws ec ∧ ks.Perm (σ.keys.map (·.1)) ∧ e = .returned (.tuple #[(doneE 0).val, .bool false]) ∧
      Sat s w' (TxnIdle tb bs bb r tries false * (StoreAt bs (σ.ended τ.stamp ks) * R)) := by
  have hd := h.alloc doneO
  rw [show pts w.heap.size doneO * (TxnTry tb bs bb r tries τ * (StoreAt bs σ * R)) = TxnTry tb bs bb r tries τ * (StoreAt bs σ * (pts w.heap.size doneO * R)) by ac_rfl] at hd
  have HW := hid (HWr _ _ _ hd)
  have HD := hid hd
  obtain ⟨tv, gb, ges, gc, h1, h2⟩ := TxnTry.open_ hd
  have c2 : (w.alloc doneO).cell? ⟨tb, 2, none⟩ = some (.int .i64 r.kind) := h2.cell rfl
  have hnf : ∀ W, (binOp .neq 88 .nilFunc .nilFunc).run Tryz.prog W = .ok (.bool false) W := fun _ => by kernel_rfl
  have hch2 : Hid (∀ W R', Sat s W (TxnTry tb bs bb r tries τ * (StoreAt bs σ * R')) → Calls Tryz.prog 45 #[.pointer (some ⟨tb, 0, none⟩)] W fun e w' => e = .returned (.bool true) ∧ Below W.heap.size W w') := fun W R' hW => by
    have := changed_txn hW
    rw [hch] at this
    exact this
  clear h h2 hd h1 HWr
  rcases hk with hk | hk | hk | hk | hk
  all_goals
    rw [hk] at c2
    go_enter_defers Tryz.func27, Tryz.ntmps27
    go_wp2_with (first
        | (go_at_call 44; (with_reducible refine HW.out.mono ?_); rintro e w2 ⟨v, ws, ec, rfl, hset, hf⟩
           obtain rfl := hroom ws ec hset
           obtain ⟨_, _, a, cap, rfl, _, _⟩ := Row.len hf
           have h3 := HD.out.fresh hf
           rw [show Row 73 3 (.slice a ws.length cap) ws.length (cellsOf Wr.cells ws) * (TxnTry tb bs bb r tries τ * (StoreAt bs σ * (pts w.heap.size doneO * R))) = TxnTry tb bs bb r tries τ * (StoreAt bs σ * (Row 73 3 (.slice a ws.length cap) ws.length (cellsOf Wr.cells ws) * (pts w.heap.size doneO * R))) by ac_rfl] at h3
           have H3 := hid h3
           have HC := hid (hch2.out w2 _ h3)
           have HSet := hid hset
           clear h3 hf hset)
        | (go_at_call 45; (with_reducible refine HC.out.mono ?_); rintro e w4 ⟨rfl, hb4⟩
           have h5 := H3.out.below hb4
           obtain ⟨tv5, gb5, ges5, gc5, hh5, h6⟩ := TxnTry.open_ h5
           have c6 : w4.cell? ⟨tb, 6, none⟩ = some (.int .i64 tries) := h6.cell rfl
           rw [show TxnO tb bs bb r tries true false τ.stamp tv5 (.map (some gb5)) * (Row 9 1 tv5 τ.todo.length (strs τ.todo) * (pts gb5 (.map ges5 gc5) * (StoreAt bs σ * (Row 73 3 (.slice a ws.length cap) ws.length (cellsOf Wr.cells ws) * (pts w.heap.size doneO * R))))) = Row 9 1 tv5 τ.todo.length (strs τ.todo) * (pts gb5 (.map ges5 gc5) * (Row 73 3 (.slice a ws.length cap) ws.length (cellsOf Wr.cells ws) * (TxnO tb bs bb r tries true false τ.stamp tv5 (.map (some gb5)) * (StoreAt bs σ * (pts w.heap.size doneO * R))))) by ac_rfl] at h6
           have h3 := h6.right.right.right
           rw [show TxnO tb bs bb r tries true false τ.stamp tv5 (.map (some gb5)) * (StoreAt bs σ * (pts w.heap.size doneO * R)) = pts w.heap.size doneO * (TxnO tb bs bb r tries true false τ.stamp tv5 (.map (some gb5)) * (StoreAt bs σ * R)) by ac_rfl] at h3
           have d0 : w4.cell? ⟨w.heap.size, 0, none⟩ = some (.int .i64 0) := h3.cell rfl
           have d1 : w4.cell? ⟨w.heap.size, 1, none⟩ = some (.string ⟨#[]⟩) := h3.cell rfl
           have d2 : w4.cell? ⟨w.heap.size, 2, none⟩ = some (.slice none 0 0) := h3.cell rfl
           have d3 : w4.cell? ⟨w.heap.size, 3, none⟩ = some (.slice none 0 0) := h3.cell rfl
           have d4 : w4.cell? ⟨w.heap.size, 4, none⟩ = some (.int .i64 0) := h3.cell rfl
           have d5 : w4.cell? ⟨w.heap.size, 5, none⟩ = some (.bool false) := h3.cell rfl
           have e0 : w4.frozen? ⟨w.heap.size, 0, none⟩ = false := h3.free
           have e1 : w4.frozen? ⟨w.heap.size, 1, none⟩ = false := h3.free
           have e2 : w4.frozen? ⟨w.heap.size, 2, none⟩ = false := h3.free
           have e3 : w4.frozen? ⟨w.heap.size, 3, none⟩ = false := h3.free
           have e4 : w4.frozen? ⟨w.heap.size, 4, none⟩ = false := h3.free
           have e5 : w4.frozen? ⟨w.heap.size, 5, none⟩ = false := h3.free
           have H3' := hid h3
           clear h3 h5 h6 hb4))
    have h4 := (((((H3'.out.setCell (off := 0) (.int .i64 0)).setCell (off := 1) (.string ⟨#[]⟩)).setCell (off := 2) (.slice none 0 0)).setCell (off := 3) (.slice none 0 0)).setCell (off := 4) (.int .i64 0)).setCell (off := 5) (.bool false)
    generalize ((((((w4.setCell ⟨w.heap.size, 0, none⟩ (.int .i64 0)).setCell ⟨w.heap.size, 1, none⟩ (.string ⟨#[]⟩)).setCell ⟨w.heap.size, 2, none⟩ (.slice none 0 0)).setCell ⟨w.heap.size, 3, none⟩ (.slice none 0 0)).setCell ⟨w.heap.size, 4, none⟩ (.int .i64 0)).setCell ⟨w.heap.size, 5, none⟩ (.bool false)) = W at *
    have h5 : Sat s W (pts w.heap.size (.cells #[.int .i64 0, .string ⟨#[]⟩, .slice none 0 0, .slice none 0 0, .int .i64 0, .bool false] 42) * (TxnO tb bs bb r tries true false τ.stamp tv5 (.map (some gb5)) * (StoreAt bs σ * R))) := h4
    rw [show pts w.heap.size (.cells #[.int .i64 0, .string ⟨#[]⟩, .slice none 0 0, .slice none 0 0, .int .i64 0, .bool false] 42) * (TxnO tb bs bb r tries true false τ.stamp tv5 (.map (some gb5)) * (StoreAt bs σ * R)) = TxnO tb bs bb r tries true false τ.stamp tv5 (.map (some gb5)) * (StoreAt bs σ * (pts w.heap.size (.cells #[.int .i64 0, .string ⟨#[]⟩, .slice none 0 0, .slice none 0 0, .int .i64 0, .bool false] 42) * R)) by ac_rfl] at h5
    obtain ⟨k1, k2⟩ := hkl
    have hpn' := hpn
    have hl' := hlst
    refine leaves_cons (f := 41) (args := #[.pointer (some ⟨tb, 0, none⟩)]) (by simp) (by simp [go_sem]) ?_
    refine (end_deferred HSK .returning h5 hpn' k1 k2 hl').mono ?_
    rintro e u' w'' ⟨rfl, ks, rfl, hp, hS⟩
    rw [show TxnO tb bs bb r tries false false τ.stamp tv5 (.map (some gb5)) * (StoreAt bs (σ.ended τ.stamp ks) * (pts w.heap.size (.cells #[.int .i64 0, .string ⟨#[]⟩, .slice none 0 0, .slice none 0 0, .int .i64 0, .bool false] 42) * R)) = pts w.heap.size (.cells #[.int .i64 0, .string ⟨#[]⟩, .slice none 0 0, .slice none 0 0, .int .i64 0, .bool false] 42) * (TxnO tb bs bb r tries false false τ.stamp tv5 (.map (some gb5)) * (StoreAt bs (σ.ended τ.stamp ks) * R)) by ac_rfl] at hS
    have g0 : w''.cell? ⟨w.heap.size, 0, none⟩ = some (.int .i64 0) := hS.cell rfl
    have g1 : w''.cell? ⟨w.heap.size, 1, none⟩ = some (.string ⟨#[]⟩) := hS.cell rfl
    have g2 : w''.cell? ⟨w.heap.size, 2, none⟩ = some (.slice none 0 0) := hS.cell rfl
    have g3 : w''.cell? ⟨w.heap.size, 3, none⟩ = some (.slice none 0 0) := hS.cell rfl
    have g4 : w''.cell? ⟨w.heap.size, 4, none⟩ = some (.int .i64 0) := hS.cell rfl
    have g5 : w''.cell? ⟨w.heap.size, 5, none⟩ = some (.bool false) := hS.cell rfl
    refine ⟨.tuple #[(doneE 0).val, .bool false], ?_, ws, _, ks, HSet.out, hp, rfl, TxnIdle.shut hS.right⟩
    simp [results, Tryz.results27, go_sem, g0, g1, g2, g3, g4, g5]

end Go.Proofs.YtnjgddckejpddaaGreatDoor
