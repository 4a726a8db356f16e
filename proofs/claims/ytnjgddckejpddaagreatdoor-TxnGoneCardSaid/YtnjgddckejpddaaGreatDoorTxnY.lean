/-
  txn.Step: a try's end.
-/
import Derived.Test.YtnjgddckejpddaaGreatDoorTxnX
namespace Go.Proofs.YtnjgddckejpddaaGreatDoor
open Go.RowKit Go.Proofs.YtnjgddckejpddaaGreatDoor.Sep

set_option maxRecDepth 100000 in
set_option maxHeartbeats 1000000 in
theorem Step_last {s : Out} {w : World} {tb bs bb : Nat} {r : Req} {tries : Nat} {τ : TryS} {σ : StoreS} {R : Hp} (Q : DoneS → Bool → Hp → Prop) (ht : τ.todo = [])
    (h : Sat s w (TxnTry tb bs bb r tries τ * (StoreAt bs σ * R))) (hr : rightB r = true) (hn1 : r.name.size ≤ 1099511627776) (hn2 : r.text.size ≤ 1099511627776)
    (hlast : ∀ W R', Sat s W (TxnTry tb bs bb r tries τ * (StoreAt bs σ * R')) → Calls Tryz.prog 27 #[.pointer (some ⟨tb, 0, none⟩)] W fun e w' => ∃ d b A, Q d b A ∧ e = .returned (.tuple #[d.val, .bool b]) ∧ Sat s w' (A * R')) :
    Calls Tryz.prog 13 #[.pointer (some ⟨tb, 0, none⟩)] w fun e w' => ∃ d b A, Q d b A ∧ e = .returned (.tuple #[d.val, .bool b]) ∧ Sat s w' (A * R) := by
  obtain ⟨tv, gb, ges, gc, h1, h2⟩ := TxnTry.open_ h
  have c8 : w.cell? ⟨tb, 8, none⟩ = some (.bool false) := h2.cell rfl
  have c2 : w.cell? ⟨tb, 2, none⟩ = some (.int .i64 r.kind) := h2.cell rfl
  have c3 : w.cell? ⟨tb, 3, none⟩ = some (.string r.name) := h2.cell rfl
  have c4 : w.cell? ⟨tb, 4, none⟩ = some (.string r.text) := h2.cell rfl
  have c5 : w.cell? ⟨tb, 5, none⟩ = some (.int .i64 r.value) := h2.cell rfl
  have hlt := h2.lt
  obtain ⟨_, _, a, cap, htv, _, _⟩ := Row.len h2.right
  have c10 : w.cell? ⟨tb, 10, none⟩ = some tv := h2.cell rfl
  have c7 : w.cell? ⟨tb, 7, none⟩ = some (.bool true) := h2.cell rfl
  rw [htv, ht] at c10
  have H := hid ((h.alloc doneO))
  have HR := hid (right_calls r (w.alloc doneO) hn1 hn2)
  rw [hr] at HR
  have HLa : Hid (∀ W R', Sat s W (TxnTry tb bs bb r tries τ * (StoreAt bs σ * R')) → Calls Tryz.prog 27 #[.pointer (some ⟨tb, 0, none⟩)] W fun e w' => ∃ d b A, Q d b A ∧ e = .returned (.tuple #[d.val, .bool b]) ∧ Sat s w' (A * R')) := hlast
  have hlen : ([] : List ByteArray).length = 0 := rfl
  rw [hlen] at c10
  clear h h1 h2 hlast htv hlen
  go_enter Tryz.func13, Tryz.ntmps13
  go_wp2_with (first
    | (go_at_call 23; (with_reducible refine HR.out.mono ?_); rintro e w2 ⟨rfl, hb⟩
       have hlt1 : tb < (w.alloc doneO).heap.size := Nat.lt_of_lt_of_le hlt (by show w.heap.size ≤ (w.heap.push _).size; simp)
       have hb0 : Below w.heap.size w (w.alloc doneO) := (Below.refl _ _).alloc (Nat.le_refl _) _
       have d7 : w2.cell? ⟨tb, 7, none⟩ = some (.bool true) := (hb.cell hlt1).trans ((hb0.cell hlt).trans c7)
       have d10 : w2.cell? ⟨tb, 10, none⟩ = some (.slice a 0 cap) := (hb.cell hlt1).trans ((hb0.cell hlt).trans c10)
       have h2 := H.out.below hb
       rw [show pts w.heap.size doneO * (TxnTry tb bs bb r tries τ * (StoreAt bs σ * R)) = TxnTry tb bs bb r tries τ * (StoreAt bs σ * (pts w.heap.size doneO * R)) by ac_rfl] at h2
       have HLa2 := hid (HLa.out w2 _ h2)
       clear h2 hb)
    | (go_at_call 27; (with_reducible refine HLa2.out.mono ?_); rintro e w3 ⟨d, b, A, hQ, rfl, h3⟩
       rw [show A * (pts w.heap.size doneO * R) = pts w.heap.size doneO * (A * R) by ac_rfl] at h3
       obtain ⟨de, dt, ia, il, ic, da, dl, dc, ds, dw⟩ := d
       have d0 : w3.cell? ⟨w.heap.size, 0, none⟩ = some (.int .i64 0) := h3.cell rfl
       have d1 : w3.cell? ⟨w.heap.size, 1, none⟩ = some (.string ⟨#[]⟩) := h3.cell rfl
       have d2 : w3.cell? ⟨w.heap.size, 2, none⟩ = some (.slice none 0 0) := h3.cell rfl
       have d3 : w3.cell? ⟨w.heap.size, 3, none⟩ = some (.slice none 0 0) := h3.cell rfl
       have d4 : w3.cell? ⟨w.heap.size, 4, none⟩ = some (.int .i64 0) := h3.cell rfl
       have d5 : w3.cell? ⟨w.heap.size, 5, none⟩ = some (.bool false) := h3.cell rfl
       have e0 : w3.frozen? ⟨w.heap.size, 0, none⟩ = false := h3.free
       have e1 : w3.frozen? ⟨w.heap.size, 1, none⟩ = false := h3.free
       have e2 : w3.frozen? ⟨w.heap.size, 2, none⟩ = false := h3.free
       have e3 : w3.frozen? ⟨w.heap.size, 3, none⟩ = false := h3.free
       have e4 : w3.frozen? ⟨w.heap.size, 4, none⟩ = false := h3.free
       have e5 : w3.frozen? ⟨w.heap.size, 5, none⟩ = false := h3.free
       have H3 := hid h3
       clear h3))
  have h4 := (((((H3.out.setCell (off := 0) (.int .i64 de)).setCell (off := 1) (.string dt)).setCell (off := 2) (.slice ia il ic)).setCell (off := 3) (.slice da dl dc)).setCell (off := 4) (.int .i64 ds)).setCell (off := 5) (.bool dw)
  generalize ((((((w3.setCell ⟨w.heap.size, 0, none⟩ (.int .i64 de)).setCell ⟨w.heap.size, 1, none⟩ (.string dt)).setCell ⟨w.heap.size, 2, none⟩ (.slice ia il ic)).setCell ⟨w.heap.size, 3, none⟩ (.slice da dl dc)).setCell ⟨w.heap.size, 4, none⟩ (.int .i64 ds)).setCell ⟨w.heap.size, 5, none⟩ (.bool dw)) = W at *
  have g0 : W.cell? ⟨w.heap.size, 0, none⟩ = some (.int .i64 de) := h4.cell rfl
  have g1 : W.cell? ⟨w.heap.size, 1, none⟩ = some (.string dt) := h4.cell rfl
  have g2 : W.cell? ⟨w.heap.size, 2, none⟩ = some (.slice ia il ic) := h4.cell rfl
  have g3 : W.cell? ⟨w.heap.size, 3, none⟩ = some (.slice da dl dc) := h4.cell rfl
  have g4 : W.cell? ⟨w.heap.size, 4, none⟩ = some (.int .i64 ds) := h4.cell rfl
  have g5 : W.cell? ⟨w.heap.size, 5, none⟩ = some (.bool dw) := h4.cell rfl
  refine bodyPost_ret (v := .tuple #[(⟨de, dt, ia, il, ic, da, dl, dc, ds, dw⟩ : DoneS).val, .bool b]) ?_ rfl ?_
  · simp [results, Tryz.results13, go_sem, g0, g1, g2, g3, g4, g5]
  · exact ⟨_, b, A, hQ, rfl, h4.right⟩

end Go.Proofs.YtnjgddckejpddaaGreatDoor
