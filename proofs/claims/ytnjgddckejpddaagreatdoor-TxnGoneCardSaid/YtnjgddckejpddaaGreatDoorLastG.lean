/-
  txn.last of a request that writes: done; refused; its try has failed; busy; no room.
-/
import Derived.Test.YtnjgddckejpddaaGreatDoorTxnX
import Derived.Test.YtnjgddckejpddaaGreatDoorTxnW
namespace Go.Proofs.YtnjgddckejpddaaGreatDoor
open Go.RowKit Go.Proofs.YtnjgddckejpddaaGreatDoor.Sep

/-- What a request's 'writes' tells, in whatever memory. -/
def WritesSpec (tb bs bb : Nat) (r : Req) (tries : Nat) (τ : TryS) (WOk : List Wr → Int → Prop) : Prop := ∀ s W R', Sat s W (TxnTry tb bs bb r tries τ * R') →
  Calls Tryz.prog 44 #[.pointer (some ⟨tb, 0, none⟩)] W fun e w' => ∃ v ws ec, e = .returned (.tuple #[v, .int .i64 ec]) ∧ WOk ws ec ∧ Fresh W w' (Row 73 3 v ws.length (cellsOf Wr.cells ws))

set_option maxRecDepth 100000 in
set_option maxHeartbeats 4000000 in
theorem last_ok (HSK : SortedKeysSpec) {s : Out} {w : World} {tb bs bb : Nat} {r : Req} {tries : Nat} {τ : TryS} {σ : StoreS} {R : Hp} (WOk : List Wr → Int → Prop)
    (h : Sat s w (TxnTry tb bs bb r tries τ * (StoreAt bs σ * R))) (hk : r.kind = 1 ∨ r.kind = 2 ∨ r.kind = 3 ∨ r.kind = 5 ∨ r.kind = 6) (HWr : WritesSpec tb bs bb r tries τ WOk)
    (hch : changedT σ τ = false) (hcnt : σ.count ≤ 500000000000) (hnow : σ.now ≤ 1099511627776)
    (hpn : -1099511627776 ≤ (aget (τ.stamp : Int) σ.pins).getD 0 ∧ (aget (τ.stamp : Int) σ.pins).getD 0 ≤ 1099511627776)
    (hlst : ∀ ws ec, WOk ws ec → 0 ≤ ((σ.writes ws).unpin τ.stamp).least) (hkl : ∀ ws ec, WOk ws ec → ws.length ≤ 10 → (σ.writes ws).count ≤ 549755813888 ∧ KeysOk (σ.writes ws) ∧ (σ.writes ws).pins = σ.pins)
    (hroom : ∀ ws ec, WOk ws ec → ec = 0 ∧ 1 ≤ ws.length ∧ ws.length ≤ 10 ∧ (σ.count : Int) + ws.length ≤ σ.limit) :
    Calls Tryz.prog 27 #[.pointer (some ⟨tb, 0, none⟩)] w fun e w' => ∃ ws ec ks, WOk ws ec ∧ ks.Perm ((σ.writes ws).keys.map (·.1)) ∧ e = .returned (.tuple #[({ doneE 0 with stamp := (σ.now : Int) + 1, wrote := true } : DoneS).val, .bool true]) ∧
      Sat s w' (TxnIdle tb bs bb r tries true * (StoreAt bs ((σ.writes ws).ended τ.stamp ks) * R)) := by
  have hd := h.alloc doneO
  rw [show pts w.heap.size doneO * (TxnTry tb bs bb r tries τ * (StoreAt bs σ * R)) = TxnTry tb bs bb r tries τ * (StoreAt bs σ * (pts w.heap.size doneO * R)) by ac_rfl] at hd
  have HW := hid (HWr _ _ _ hd)
  have HD := hid hd
  obtain ⟨tv, gb, ges, gc, h1, h2⟩ := TxnTry.open_ hd
  have c2 : (w.alloc doneO).cell? ⟨tb, 2, none⟩ = some (.int .i64 r.kind) := h2.cell rfl
  have hnf : ∀ W, (binOp .neq 88 .nilFunc .nilFunc).run Tryz.prog W = .ok (.bool false) W := fun _ => by kernel_rfl
  have hch2 : Hid (∀ W R', Sat s W (TxnTry tb bs bb r tries τ * (StoreAt bs σ * R')) → Calls Tryz.prog 45 #[.pointer (some ⟨tb, 0, none⟩)] W fun e w' => e = .returned (.bool false) ∧ Below W.heap.size W w') := fun W R' hW => by
    have := changed_txn hW
    rw [hch] at this
    exact this
  clear h h2 hd h1 HWr
  rcases hk with hk | hk | hk | hk | hk
  all_goals
    rw [hk] at c2
    go_enter_defers Tryz.func27, Tryz.ntmps27
    go_wp2_with (first
        | (go_at_call 44; (with_reducible refine HW.out.mono ?_); rintro e w2 ⟨v, ws, ec, rfl, hset, hf⟩
           obtain ⟨rfl, hw1, hw2, hw3⟩ := hroom ws ec hset
           obtain ⟨_, _, a, cap, rfl, _, _⟩ := Row.len hf
           have h3 := HD.out.fresh hf
           rw [show Row 73 3 (.slice a ws.length cap) ws.length (cellsOf Wr.cells ws) * (TxnTry tb bs bb r tries τ * (StoreAt bs σ * (pts w.heap.size doneO * R))) = TxnTry tb bs bb r tries τ * (StoreAt bs σ * (Row 73 3 (.slice a ws.length cap) ws.length (cellsOf Wr.cells ws) * (pts w.heap.size doneO * R))) by ac_rfl] at h3
           have H3 := hid h3
           have HC := hid (hch2.out w2 _ h3)
           have HSet := hid hset
           clear h3 hf hset)
        | (go_at_call 45; (with_reducible refine HC.out.mono ?_); rintro e w4 ⟨rfl, hb4⟩
           have h5 := H3.out.below hb4
           obtain ⟨tv5, gb5, ges5, gc5, hh5, h6⟩ := TxnTry.open_ h5
           have c0 : w4.cell? ⟨tb, 0, none⟩ = some (.pointer (some ⟨bs, 0, none⟩)) := h6.cell rfl
           have h7 := h6
           rw [show TxnO tb bs bb r tries true false τ.stamp tv5 (.map (some gb5)) * (Row 9 1 tv5 τ.todo.length (strs τ.todo) * (pts gb5 (.map ges5 gc5) * (StoreAt bs σ * (Row 73 3 (.slice a ws.length cap) ws.length (cellsOf Wr.cells ws) * (pts w.heap.size doneO * R))))) = StoreAt bs σ * (Row 73 3 (.slice a ws.length cap) ws.length (cellsOf Wr.cells ws) * (TxnO tb bs bb r tries true false τ.stamp tv5 (.map (some gb5)) * (Row 9 1 tv5 τ.todo.length (strs τ.todo) * (pts gb5 (.map ges5 gc5) * (pts w.heap.size doneO * R))))) by ac_rfl] at h7
           have h8 := h7
           rw [show StoreAt bs σ * (Row 73 3 (.slice a ws.length cap) ws.length (cellsOf Wr.cells ws) * (TxnO tb bs bb r tries true false τ.stamp tv5 (.map (some gb5)) * (Row 9 1 tv5 τ.todo.length (strs τ.todo) * (pts gb5 (.map ges5 gc5) * (pts w.heap.size doneO * R))))) = Row 73 3 (.slice a ws.length cap) ws.length (cellsOf Wr.cells ws) * (StoreAt bs σ * (TxnO tb bs bb r tries true false τ.stamp tv5 (.map (some gb5)) * (Row 9 1 tv5 τ.todo.length (strs τ.todo) * (pts gb5 (.map ges5 gc5) * (pts w.heap.size doneO * R))))) by ac_rfl] at h8
           obtain ⟨_, ⟨_, hn0, _⟩ | ⟨g, cap', cur, hva, _, _, _, _, _⟩⟩ := Row.open_ h8
           · omega
           injection hva with hva1 _ hva2
           subst hva1; subst hva2
           have HCm := hid (commit_ok s bs σ ws g ws.length cap w4 _ h7 (by omega) rfl (by omega) hnow hw3)
           clear h5 h6 h7 h8 hb4)
        | (go_at_call 46; (with_reducible refine HCm.out.mono ?_); rintro e w5 ⟨rfl, h9⟩
           rw [show StoreAt bs (σ.writes ws) * (Row 73 3 (.slice (some ⟨g, 0, none⟩) ws.length cap) ws.length (cellsOf Wr.cells ws) * (TxnO tb bs bb r tries true false τ.stamp tv5 (.map (some gb5)) * (Row 9 1 tv5 τ.todo.length (strs τ.todo) * (pts gb5 (.map ges5 gc5) * (pts w.heap.size doneO * R))))) = Row 73 3 (.slice (some ⟨g, 0, none⟩) ws.length cap) ws.length (cellsOf Wr.cells ws) * (Row 9 1 tv5 τ.todo.length (strs τ.todo) * (pts gb5 (.map ges5 gc5) * (TxnO tb bs bb r tries true false τ.stamp tv5 (.map (some gb5)) * (StoreAt bs (σ.writes ws) * (pts w.heap.size doneO * R))))) by ac_rfl] at h9
           have HT := hid (told_calls { doneE 0 with stamp := (σ.now : Int) + 1, wrote := true } h9.right.right.right)
           clear h9)
        | (go_at_call 24; (with_reducible refine HT.out.mono ?_); rintro e w3 ⟨rfl, h3⟩
           rw [show TxnO tb bs bb r tries true true τ.stamp tv5 (.map (some gb5)) * (StoreAt bs (σ.writes ws) * (pts w.heap.size doneO * R)) = pts w.heap.size doneO * (TxnO tb bs bb r tries true true τ.stamp tv5 (.map (some gb5)) * (StoreAt bs (σ.writes ws) * R)) by ac_rfl] at h3
           have d0 : w3.cell? ⟨w.heap.size, 0, none⟩ = some (.int .i64 0) := h3.cell rfl
           have d1 : w3.cell? ⟨w.heap.size, 1, none⟩ = some (.string ⟨#[]⟩) := h3.cell rfl
           have d2 : w3.cell? ⟨w.heap.size, 2, none⟩ = some (.slice none 0 0) := h3.cell rfl
           have d3 : w3.cell? ⟨w.heap.size, 3, none⟩ = some (.slice none 0 0) := h3.cell rfl
           have d4 : w3.cell? ⟨w.heap.size, 4, none⟩ = some (.int .i64 0) := h3.cell rfl
           have d5 : w3.cell? ⟨w.heap.size, 5, none⟩ = some (.bool false) := h3.cell rfl
           have e0 : w3.frozen? ⟨w.heap.size, 0, none⟩ = false := h3.free
           have e1 : w3.frozen? ⟨w.heap.size, 1, none⟩ = false := h3.free
           have e2 : w3.frozen? ⟨w.heap.size, 2, none⟩ = false := h3.free
           have e3 : w3.frozen? ⟨w.heap.size, 3, none⟩ = false := h3.free
           have e4 : w3.frozen? ⟨w.heap.size, 4, none⟩ = false := h3.free
           have e5 : w3.frozen? ⟨w.heap.size, 5, none⟩ = false := h3.free
           have H3' := hid h3
           clear h3))
    have h4 := (((((H3'.out.setCell (off := 0) (.int .i64 0)).setCell (off := 1) (.string ⟨#[]⟩)).setCell (off := 2) (.slice none 0 0)).setCell (off := 3) (.slice none 0 0)).setCell (off := 4) (.int .i64 ((σ.now : Int) + 1))).setCell (off := 5) (.bool true)
    generalize ((((((w3.setCell ⟨w.heap.size, 0, none⟩ (.int .i64 0)).setCell ⟨w.heap.size, 1, none⟩ (.string ⟨#[]⟩)).setCell ⟨w.heap.size, 2, none⟩ (.slice none 0 0)).setCell ⟨w.heap.size, 3, none⟩ (.slice none 0 0)).setCell ⟨w.heap.size, 4, none⟩ (.int .i64 ((σ.now : Int) + 1))).setCell ⟨w.heap.size, 5, none⟩ (.bool true)) = W at *
    have h5 : Sat s W (pts w.heap.size (.cells #[.int .i64 0, .string ⟨#[]⟩, .slice none 0 0, .slice none 0 0, .int .i64 ((σ.now : Int) + 1), .bool true] 42) * (TxnO tb bs bb r tries true true τ.stamp tv5 (.map (some gb5)) * (StoreAt bs (σ.writes ws) * R))) := h4
    rw [show pts w.heap.size (.cells #[.int .i64 0, .string ⟨#[]⟩, .slice none 0 0, .slice none 0 0, .int .i64 ((σ.now : Int) + 1), .bool true] 42) * (TxnO tb bs bb r tries true true τ.stamp tv5 (.map (some gb5)) * (StoreAt bs (σ.writes ws) * R)) = TxnO tb bs bb r tries true true τ.stamp tv5 (.map (some gb5)) * (StoreAt bs (σ.writes ws) * (pts w.heap.size (.cells #[.int .i64 0, .string ⟨#[]⟩, .slice none 0 0, .slice none 0 0, .int .i64 ((σ.now : Int) + 1), .bool true] 42) * R)) by ac_rfl] at h5
    obtain ⟨k1, k2, k3⟩ := hkl ws _ HSet.out hw2
    have hpn' : -1099511627776 ≤ (aget (τ.stamp : Int) (σ.writes ws).pins).getD 0 ∧ (aget (τ.stamp : Int) (σ.writes ws).pins).getD 0 ≤ 1099511627776 := by rw [k3]; exact hpn
    have hl' := hlst ws _ HSet.out
    refine leaves_cons (f := 41) (args := #[.pointer (some ⟨tb, 0, none⟩)]) (by simp) (by simp [go_sem]) ?_
    refine (end_deferred HSK .returning h5 hpn' k1 k2 hl').mono ?_
    rintro e u' w'' ⟨rfl, ks, rfl, hp, hS⟩
    rw [show TxnO tb bs bb r tries false true τ.stamp tv5 (.map (some gb5)) * (StoreAt bs ((σ.writes ws).ended τ.stamp ks) * (pts w.heap.size (.cells #[.int .i64 0, .string ⟨#[]⟩, .slice none 0 0, .slice none 0 0, .int .i64 ((σ.now : Int) + 1), .bool true] 42) * R)) = pts w.heap.size (.cells #[.int .i64 0, .string ⟨#[]⟩, .slice none 0 0, .slice none 0 0, .int .i64 ((σ.now : Int) + 1), .bool true] 42) * (TxnO tb bs bb r tries false true τ.stamp tv5 (.map (some gb5)) * (StoreAt bs ((σ.writes ws).ended τ.stamp ks) * R)) by ac_rfl] at hS
    have g0 : w''.cell? ⟨w.heap.size, 0, none⟩ = some (.int .i64 0) := hS.cell rfl
    have g1 : w''.cell? ⟨w.heap.size, 1, none⟩ = some (.string ⟨#[]⟩) := hS.cell rfl
    have g2 : w''.cell? ⟨w.heap.size, 2, none⟩ = some (.slice none 0 0) := hS.cell rfl
    have g3 : w''.cell? ⟨w.heap.size, 3, none⟩ = some (.slice none 0 0) := hS.cell rfl
    have g4 : w''.cell? ⟨w.heap.size, 4, none⟩ = some (.int .i64 ((σ.now : Int) + 1)) := hS.cell rfl
    have g5 : w''.cell? ⟨w.heap.size, 5, none⟩ = some (.bool true) := hS.cell rfl
    refine ⟨.tuple #[({ doneE 0 with stamp := (σ.now : Int) + 1, wrote := true } : DoneS).val, .bool true], ?_, ws, _, ks, HSet.out, hp, rfl, TxnIdle.shut hS.right⟩
    simp [results, Tryz.results27, go_sem, g0, g1, g2, g3, g4, g5]

end Go.Proofs.YtnjgddckejpddaaGreatDoor
