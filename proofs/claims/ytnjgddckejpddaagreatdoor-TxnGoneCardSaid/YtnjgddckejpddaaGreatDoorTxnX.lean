/-
  txn.end as it is deferred.
-/
import Derived.Test.YtnjgddckejpddaaGreatDoorTxnV
import Derived.Defers
namespace Go.Proofs.YtnjgddckejpddaaGreatDoor
open Go.RowKit Go.Proofs.YtnjgddckejpddaaGreatDoor.Sep

set_option maxRecDepth 100000 in
set_option maxHeartbeats 1000000 in
theorem end_deferred (HSK : SortedKeysSpec) {s : Out} {w : World} {tb bs bb : Nat} {r : Req} {tries : Nat} {over : Bool} {σ : StoreS} {stamp : Nat} {todo got : Value} {R : Hp} (u : FrameMode)
    (h : Sat s w (TxnO tb bs bb r tries true over stamp todo got * (StoreAt bs σ * R))) (hn : -1099511627776 ≤ (aget (stamp : Int) σ.pins).getD 0 ∧ (aget (stamp : Int) σ.pins).getD 0 ≤ 1099511627776)
    (hc : σ.count ≤ 549755813888) (hk : KeysOk σ) (hl : 0 ≤ (σ.unpin stamp).least) :
    CallsD Tryz.prog 41 #[.pointer (some ⟨tb, 0, none⟩)] u w fun e u' w' => u' = u ∧ ∃ ks : List ByteArray, e = .returned (.tuple #[]) ∧ ks.Perm (σ.keys.map (·.1)) ∧
      Sat s w' (TxnO tb bs bb r tries false over stamp todo got * (StoreAt bs (σ.ended stamp ks) * R)) := by
  have c7 : w.cell? ⟨tb, 7, none⟩ = some (.bool true) := h.cell rfl
  have f7 : w.frozen? ⟨tb, 7, none⟩ = false := h.free
  have h2 : Sat s (w.setCell ⟨tb, 7, none⟩ (.bool false)) (TxnO tb bs bb r tries false over stamp todo got * (StoreAt bs σ * R)) := h.setCell (off := 7) (.bool false)
  have c0 : (w.setCell ⟨tb, 7, none⟩ (.bool false)).drew.cell? ⟨tb, 0, none⟩ = some (.pointer (some ⟨bs, 0, none⟩)) := h2.drew.cell rfl
  have c9 : (w.setCell ⟨tb, 7, none⟩ (.bool false)).drew.cell? ⟨tb, 9, none⟩ = some (.int .i64 stamp) := h2.drew.cell rfl
  rw [show TxnO tb bs bb r tries false over stamp todo got * (StoreAt bs σ * R) = StoreAt bs σ * (TxnO tb bs bb r tries false over stamp todo got * R) by ac_rfl] at h2
  have HU := hid (Unpin_sat h2.drew stamp hn)
  have HC : Hid (∀ W, Sat s W (StoreAt bs (σ.unpin stamp) * (TxnO tb bs bb r tries false over stamp todo got * R)) → Calls Tryz.prog 54 #[.pointer (some ⟨bs, 0, none⟩)] W fun e w' => ∃ (o : Int) (ks : List ByteArray), e = .returned (.int .i64 o) ∧ ks.Perm (σ.keys.map (·.1)) ∧
      Sat s w' (StoreAt bs (σ.ended stamp ks) * (TxnO tb bs bb r tries false over stamp todo got * R))) := fun W hW => clean_walk HSK s bs _ _ W _ hW (Int.toNat_of_nonneg hl).symm hc hk
  have q0 : (w.setCell ⟨tb, 7, none⟩ (.bool false)).drew.cell? ⟨tb, 0, none⟩ = some (.pointer (some ⟨bs, 0, none⟩)) ∧ (w.setCell ⟨tb, 7, none⟩ (.bool false)).drew.cell? ⟨tb, 9, none⟩ = some (.int .i64 stamp) := ⟨c0, c9⟩
  clear h h2 c0 c9 hn hc hk hl
  go_enter_d Tryz.func41, Tryz.ntmps41
  go_wp2
  go_region_held3 (fun w' => w'.cell? ⟨tb, 0, none⟩ = some (.pointer (some ⟨bs, 0, none⟩)) ∧ w'.cell? ⟨tb, 9, none⟩ = some (.int .i64 stamp)) (with_reducible first | exact q0 | exact q1)
    (first | (go_at_call 34; ((with_reducible refine HU.out.mono ?_); rintro e w' ⟨rfl, hU⟩; have hU2 := hid hU; rw [show StoreAt bs (σ.unpin stamp) * (TxnO tb bs bb r tries false over stamp todo got * R) = TxnO tb bs bb r tries false over stamp todo got * (StoreAt bs (σ.unpin stamp) * R) by ac_rfl] at hU; have q1 : w'.cell? ⟨tb, 0, none⟩ = some (.pointer (some ⟨bs, 0, none⟩)) ∧ w'.cell? ⟨tb, 9, none⟩ = some (.int .i64 stamp) := ⟨hU.cell rfl, hU.cell rfl⟩; clear hU)))
  obtain ⟨c0, _⟩ := q1
  have HC2 := hid (HC.out _ hU2.out)
  go_wp2_with (go_at_call 54; ((with_reducible refine HC2.out.mono ?_); rintro e w' ⟨o, ks, rfl, hp, hS⟩))
  go_end0
  refine ⟨ks, rfl, hp, ?_⟩
  rw [show TxnO tb bs bb r tries false over stamp todo got * (StoreAt bs (σ.ended stamp ks) * R) = StoreAt bs (σ.ended stamp ks) * (TxnO tb bs bb r tries false over stamp todo got * R) by ac_rfl]
  exact hS

end Go.Proofs.YtnjgddckejpddaaGreatDoor
