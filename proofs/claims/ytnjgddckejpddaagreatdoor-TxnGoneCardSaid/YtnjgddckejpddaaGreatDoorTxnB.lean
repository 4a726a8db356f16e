/-
  Requests that are under way: a try begins; it ends.
-/
import Derived.Test.YtnjgddckejpddaaGreatDoorTxn
import Derived.Test.YtnjgddckejpddaaGreatDoorClean
namespace Go.Proofs.YtnjgddckejpddaaGreatDoor
open Go.RowKit Go.Proofs.YtnjgddckejpddaaGreatDoor.Sep

set_option maxRecDepth 100000 in
set_option maxHeartbeats 1000000 in
theorem begin_calls {s : Out} {w : World} {tb bs bb : Nat} {r : Req} {tries : Nat} {σ : StoreS} {R : Hp} (h : Sat s w (TxnIdle tb bs bb r tries false * (StoreAt bs σ * R))) (hs : r.name.size ≤ 1048576) (ht : tries ≤ 1099511627776)
    (hn : -1 ≤ (aget (σ.now : Int) σ.pins).getD 0 ∧ (aget (σ.now : Int) σ.pins).getD 0 ≤ 1099511627776) :
    Calls Tryz.prog 25 #[.pointer (some ⟨tb, 0, none⟩)] w fun e w' => e = .returned (.tuple #[]) ∧ Sat s w' (TxnTry tb bs bb r (tries + 1) ⟨σ.now, firstKeys r, []⟩ * (StoreAt bs σ.pin * R)) := by
  obtain ⟨stamp, todo, got, h1⟩ := TxnIdle.open_ h
  have c0 : w.cell? ⟨tb, 0, none⟩ = some (.pointer (some ⟨bs, 0, none⟩)) := h1.cell rfl
  have c6 : w.cell? ⟨tb, 6, none⟩ = some (.int .i64 tries) := h1.cell rfl
  have f6 : w.frozen? ⟨tb, 6, none⟩ = false := h1.free
  have h2 : Sat s (w.setCell ⟨tb, 6, none⟩ (.int .i64 ((tries : Int) + 1))) (TxnO tb bs bb r (tries + 1) false false stamp todo got * (StoreAt bs σ * R)) := h1.setCell (off := 6) (.int .i64 ((tries : Int) + 1))
  rw [show TxnO tb bs bb r (tries + 1) false false stamp todo got * (StoreAt bs σ * R) = StoreAt bs σ * (TxnO tb bs bb r (tries + 1) false false stamp todo got * R) by ac_rfl] at h2
  have HP := hid (Pin_sat h2 hn)
  have hmk : ∀ W : World, (Instr.makeMap 66 none).run Tryz.prog W = .ok (.map (some W.heap.size)) (W.alloc (.map #[] 0)) := fun _ => rfl
  have HN : Hid (r.name.size ≤ 1048576) := hs
  clear h h1 h2 hn hs
  go_enter Tryz.func25, Tryz.ntmps25
  go_wp2_with (first
    | (go_at_call 38; (with_reducible refine HP.out.mono ?_); rintro e w' ⟨rfl, h2⟩
       rw [show StoreAt bs σ.pin * (TxnO tb bs bb r (tries + 1) false false stamp todo got * R) = TxnO tb bs bb r (tries + 1) false false stamp todo got * (StoreAt bs σ.pin * R) by ac_rfl] at h2
       have c7 : w'.cell? ⟨tb, 7, none⟩ = some (.bool false) := h2.cell rfl
       have c9 : w'.cell? ⟨tb, 9, none⟩ = some (.int .i64 stamp) := h2.cell rfl
       have f7 : w'.frozen? ⟨tb, 7, none⟩ = false := h2.free
       have f9 : w'.frozen? ⟨tb, 9, none⟩ = false := h2.free
       have h3 : Sat s ((w'.setCell ⟨tb, 7, none⟩ (.bool true)).setCell ⟨tb, 9, none⟩ (.int .i64 σ.now)) (TxnO tb bs bb r (tries + 1) true false σ.now todo got * (StoreAt bs σ.pin * R)) := (h2.setCell (off := 7) (.bool true)).setCell (off := 9) (.int .i64 σ.now)
       have HF := hid (first_calls h3 HN.out)
       have H3 := hid h3
       clear h2 h3)
    | (go_at_call 39; (with_reducible refine HF.out.mono ?_); rintro e w' ⟨v, rfl, hf⟩
       obtain ⟨_, _, a, cap, rfl, _, _⟩ := Row.len hf
       generalize hfk : (firstKeys r).length = fk at hf
       have h4 := (H3.out.fresh hf).alloc (.map #[] 0)
       rw [show ∀ b : Nat, pts b (.map #[] 0) * (Row 9 1 (.slice a fk cap) fk (strs (firstKeys r)) * (TxnO tb bs bb r (tries + 1) true false σ.now todo got * (StoreAt bs σ.pin * R))) =
         TxnO tb bs bb r (tries + 1) true false σ.now todo got * (Row 9 1 (.slice a fk cap) fk (strs (firstKeys r)) * (pts b (.map #[] 0) * (StoreAt bs σ.pin * R))) from fun b => by ac_rfl] at h4
       have c10 : (w'.alloc (.map #[] 0)).cell? ⟨tb, 10, none⟩ = some todo := h4.cell rfl
       have c11 : (w'.alloc (.map #[] 0)).cell? ⟨tb, 11, none⟩ = some got := h4.cell rfl
       have f10 : (w'.alloc (.map #[] 0)).frozen? ⟨tb, 10, none⟩ = false := h4.free
       have f11 : (w'.alloc (.map #[] 0)).frozen? ⟨tb, 11, none⟩ = false := h4.free
       have H4 := hid h4
       clear h4 hf))
  go_end0
  refine ⟨rfl, TxnTry.shut (tv := .slice a fk cap) (gb := w'.heap.size) (ges := #[]) (gc := 0) (holds_empty _) ?_⟩
  have := (H4.out.setCell (off := 10) (.slice a fk cap)).setCell (off := 11) (.map (some w'.heap.size))
  subst hfk
  exact this

/-- A try has ended: the pin is gone, the store is clean. -/
def StoreS.ended (σ : StoreS) (t : Nat) (ks : List ByteArray) : StoreS := { σ.unpin t with keys := cleanAll (σ.unpin t).least.toNat ks σ.keys }

theorem least_nonneg : ∀ (l : List (Int × Int)) (n : Int), 0 ≤ n → (∀ p ∈ l, 0 ≤ p.1) → 0 ≤ l.foldl (fun m p => min m p.1) n
  | [], _, h, _ => h
  | p :: l, n, h, hp => least_nonneg l _ (by have := hp p (by simp); show 0 ≤ min n p.1; omega) fun q hq => hp q (by simp [hq])

set_option maxRecDepth 100000 in
set_option maxHeartbeats 1000000 in
theorem end_calls (HSK : SortedKeysSpec) {s : Out} {w : World} {tb bs bb : Nat} {r : Req} {tries : Nat} {over : Bool} {σ : StoreS} {stamp : Nat} {todo got : Value} {R : Hp}
    (h : Sat s w (TxnO tb bs bb r tries true over stamp todo got * (StoreAt bs σ * R))) (hn : -1099511627776 ≤ (aget (stamp : Int) σ.pins).getD 0 ∧ (aget (stamp : Int) σ.pins).getD 0 ≤ 1099511627776)
    (hc : σ.count ≤ 549755813888) (hk : KeysOk σ) (hl : 0 ≤ (σ.unpin stamp).least) :
    Calls Tryz.prog 41 #[.pointer (some ⟨tb, 0, none⟩)] w fun e w' => ∃ ks : List ByteArray, e = .returned (.tuple #[]) ∧ ks.Perm (σ.keys.map (·.1)) ∧
      Sat s w' (TxnO tb bs bb r tries false over stamp todo got * (StoreAt bs (σ.ended stamp ks) * R)) := by
  have c7 : w.cell? ⟨tb, 7, none⟩ = some (.bool true) := h.cell rfl
  have f7 : w.frozen? ⟨tb, 7, none⟩ = false := h.free
  have h2 : Sat s (w.setCell ⟨tb, 7, none⟩ (.bool false)) (TxnO tb bs bb r tries false over stamp todo got * (StoreAt bs σ * R)) := h.setCell (off := 7) (.bool false)
  have c0 : (w.setCell ⟨tb, 7, none⟩ (.bool false)).drew.cell? ⟨tb, 0, none⟩ = some (.pointer (some ⟨bs, 0, none⟩)) := h2.drew.cell rfl
  have c9 : (w.setCell ⟨tb, 7, none⟩ (.bool false)).drew.cell? ⟨tb, 9, none⟩ = some (.int .i64 stamp) := h2.drew.cell rfl
  rw [show TxnO tb bs bb r tries false over stamp todo got * (StoreAt bs σ * R) = StoreAt bs σ * (TxnO tb bs bb r tries false over stamp todo got * R) by ac_rfl] at h2
  have HU := hid (Unpin_sat h2.drew stamp hn)
  have HC : Hid (∀ W, Sat s W (StoreAt bs (σ.unpin stamp) * (TxnO tb bs bb r tries false over stamp todo got * R)) → Calls Tryz.prog 54 #[.pointer (some ⟨bs, 0, none⟩)] W fun e w' => ∃ (o : Int) (ks : List ByteArray), e = .returned (.int .i64 o) ∧ ks.Perm (σ.keys.map (·.1)) ∧
      Sat s w' (StoreAt bs (σ.ended stamp ks) * (TxnO tb bs bb r tries false over stamp todo got * R))) := fun W hW => clean_walk HSK s bs _ _ W _ hW (Int.toNat_of_nonneg hl).symm hc hk
  have q0 : (w.setCell ⟨tb, 7, none⟩ (.bool false)).drew.cell? ⟨tb, 0, none⟩ = some (.pointer (some ⟨bs, 0, none⟩)) ∧ (w.setCell ⟨tb, 7, none⟩ (.bool false)).drew.cell? ⟨tb, 9, none⟩ = some (.int .i64 stamp) := ⟨c0, c9⟩
  clear h h2 c0 c9 hn hc hk hl
  go_enter Tryz.func41, Tryz.ntmps41
  go_wp2
  go_region_held3 (fun w' => w'.cell? ⟨tb, 0, none⟩ = some (.pointer (some ⟨bs, 0, none⟩)) ∧ w'.cell? ⟨tb, 9, none⟩ = some (.int .i64 stamp)) (with_reducible first | exact q0 | exact q1)
    (first | (go_at_call 34; ((with_reducible refine HU.out.mono ?_); rintro e w' ⟨rfl, hU⟩; have hU2 := hid hU; rw [show StoreAt bs (σ.unpin stamp) * (TxnO tb bs bb r tries false over stamp todo got * R) = TxnO tb bs bb r tries false over stamp todo got * (StoreAt bs (σ.unpin stamp) * R) by ac_rfl] at hU; have q1 : w'.cell? ⟨tb, 0, none⟩ = some (.pointer (some ⟨bs, 0, none⟩)) ∧ w'.cell? ⟨tb, 9, none⟩ = some (.int .i64 stamp) := ⟨hU.cell rfl, hU.cell rfl⟩; clear hU)))
  obtain ⟨c0, _⟩ := q1
  have HC2 := hid (HC.out _ hU2.out)
  go_wp2_with (go_at_call 54; ((with_reducible refine HC2.out.mono ?_); rintro e w' ⟨o, ks, rfl, hp, hS⟩))
  go_end0
  refine ⟨ks, rfl, hp, ?_⟩
  rw [show TxnO tb bs bb r tries false over stamp todo got * (StoreAt bs (σ.ended stamp ks) * R) = StoreAt bs (σ.ended stamp ks) * (TxnO tb bs bb r tries false over stamp todo got * R) by ac_rfl]
  exact hS

end Go.Proofs.YtnjgddckejpddaaGreatDoor
