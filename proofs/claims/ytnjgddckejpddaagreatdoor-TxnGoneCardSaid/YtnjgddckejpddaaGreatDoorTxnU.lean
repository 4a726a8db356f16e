/-
  txn.Step: a key is read.
-/
import Derived.Test.YtnjgddckejpddaaGreatDoorTxnT
import Derived.Test.YtnjgddckejpddaaGreatDoorTxnR
namespace Go.Proofs.YtnjgddckejpddaaGreatDoor
open Go.RowKit Go.Proofs.YtnjgddckejpddaaGreatDoor.Sep

abbrev doneO : Obj := .cells #[.int .i64 0, .string ⟨#[]⟩, .slice none 0 0, .slice none 0 0, .int .i64 0, .bool false] 42

set_option maxRecDepth 100000 in
set_option maxHeartbeats 1000000 in
theorem Step_read {s : Out} {w : World} {tb bs bb : Nat} {r : Req} {tries : Nat} {τ : TryS} {σ : StoreS} {R : Hp} {k : ByteArray} {rest mk : List ByteArray} (ht : τ.todo = k :: rest) (hl : rest.length ≤ 100000) (hmk : mk.length ≤ 100000)
    (h : Sat s w (TxnTry tb bs bb r tries τ * (StoreAt bs σ * R))) (hr : rightB r = true) (hn1 : r.name.size ≤ 1099511627776) (hn2 : r.text.size ≤ 1099511627776)
    (hm : ∀ W R', Sat s W (TxnTry tb bs bb r tries { τ with got := aset k (σ.at_ k τ.stamp) τ.got } * R') → Calls Tryz.prog 40 #[.pointer (some ⟨tb, 0, none⟩), .string k] W fun e w' => ∃ v, e = .returned v ∧ Fresh W w' (Row 9 1 v mk.length (strs mk))) :
    Calls Tryz.prog 13 #[.pointer (some ⟨tb, 0, none⟩)] w fun e w' => e = .returned (.tuple #[(doneE 0).val, .bool false]) ∧ Sat s w' (TxnTry tb bs bb r tries ⟨τ.stamp, rest ++ mk, aset k (σ.at_ k τ.stamp) τ.got⟩ * (StoreAt bs σ * R)) := by
  obtain ⟨tv, gb, ges, gc, h1, h2⟩ := TxnTry.open_ h
  have c8 : w.cell? ⟨tb, 8, none⟩ = some (.bool false) := h2.cell rfl
  have c2 : w.cell? ⟨tb, 2, none⟩ = some (.int .i64 r.kind) := h2.cell rfl
  have c3 : w.cell? ⟨tb, 3, none⟩ = some (.string r.name) := h2.cell rfl
  have c4 : w.cell? ⟨tb, 4, none⟩ = some (.string r.text) := h2.cell rfl
  have c5 : w.cell? ⟨tb, 5, none⟩ = some (.int .i64 r.value) := h2.cell rfl
  have hlt := h2.lt
  obtain ⟨_, _, a, cap, htv, _, _⟩ := Row.len h2.right
  have c10 : w.cell? ⟨tb, 10, none⟩ = some tv := h2.cell rfl
  have c7 : w.cell? ⟨tb, 7, none⟩ = some (.bool true) := h2.cell rfl
  rw [htv, ht] at c10
  have H := hid ((h.alloc doneO))
  have HR := hid (right_calls r (w.alloc doneO) hn1 hn2)
  rw [hr] at HR
  have HRd : Hid (∀ W R', Sat s W (TxnTry tb bs bb r tries τ * (StoreAt bs σ * R')) → Calls Tryz.prog 26 #[.pointer (some ⟨tb, 0, none⟩)] W fun e w' => e = .returned (.tuple #[]) ∧ Sat s w' (TxnTry tb bs bb r tries ⟨τ.stamp, rest ++ mk, aset k (σ.at_ k τ.stamp) τ.got⟩ * (StoreAt bs σ * R'))) :=
    fun W R' hW => read_calls ht hl hmk hW hm
  have hlen : (k :: rest).length = rest.length + 1 := by simp
  rw [hlen] at c10
  clear h h1 h2 hm htv hlen
  go_enter Tryz.func13, Tryz.ntmps13
  go_wp2_with (first
    | (go_at_call 23; (with_reducible refine HR.out.mono ?_); rintro e w2 ⟨rfl, hb⟩
       have hlt1 : tb < (w.alloc doneO).heap.size := Nat.lt_of_lt_of_le hlt (by show w.heap.size ≤ (w.heap.push _).size; simp)
       have hb0 : Below w.heap.size w (w.alloc doneO) := (Below.refl _ _).alloc (Nat.le_refl _) _
       have d7 : w2.cell? ⟨tb, 7, none⟩ = some (.bool true) := (hb.cell hlt1).trans ((hb0.cell hlt).trans c7)
       have d10 : w2.cell? ⟨tb, 10, none⟩ = some (.slice a (rest.length + 1) cap) := (hb.cell hlt1).trans ((hb0.cell hlt).trans c10)
       have h2 := H.out.below hb
       rw [show pts w.heap.size doneO * (TxnTry tb bs bb r tries τ * (StoreAt bs σ * R)) = TxnTry tb bs bb r tries τ * (StoreAt bs σ * (pts w.heap.size doneO * R)) by ac_rfl] at h2
       have HRd2 := hid (HRd.out w2 _ h2)
       clear h2 hb)
    | (go_at_call 26; (with_reducible refine HRd2.out.mono ?_); rintro e w3 ⟨rfl, h3⟩
       rw [show TxnTry tb bs bb r tries ⟨τ.stamp, rest ++ mk, aset k (σ.at_ k τ.stamp) τ.got⟩ * (StoreAt bs σ * (pts w.heap.size doneO * R)) = pts w.heap.size doneO * (TxnTry tb bs bb r tries ⟨τ.stamp, rest ++ mk, aset k (σ.at_ k τ.stamp) τ.got⟩ * (StoreAt bs σ * R)) by ac_rfl] at h3
       have d0 : w3.cell? ⟨w.heap.size, 0, none⟩ = some (.int .i64 0) := h3.cell rfl
       have d1 : w3.cell? ⟨w.heap.size, 1, none⟩ = some (.string ⟨#[]⟩) := h3.cell rfl
       have d2 : w3.cell? ⟨w.heap.size, 2, none⟩ = some (.slice none 0 0) := h3.cell rfl
       have d3 : w3.cell? ⟨w.heap.size, 3, none⟩ = some (.slice none 0 0) := h3.cell rfl
       have d4 : w3.cell? ⟨w.heap.size, 4, none⟩ = some (.int .i64 0) := h3.cell rfl
       have d5 : w3.cell? ⟨w.heap.size, 5, none⟩ = some (.bool false) := h3.cell rfl
       have e0 : w3.frozen? ⟨w.heap.size, 0, none⟩ = false := h3.free
       have e1 : w3.frozen? ⟨w.heap.size, 1, none⟩ = false := h3.free
       have e2 : w3.frozen? ⟨w.heap.size, 2, none⟩ = false := h3.free
       have e3 : w3.frozen? ⟨w.heap.size, 3, none⟩ = false := h3.free
       have e4 : w3.frozen? ⟨w.heap.size, 4, none⟩ = false := h3.free
       have e5 : w3.frozen? ⟨w.heap.size, 5, none⟩ = false := h3.free
       have H3 := hid h3
       clear h3))
  have h4 := (((((H3.out.setCell (off := 0) (.int .i64 0)).setCell (off := 1) (.string ⟨#[]⟩)).setCell (off := 2) (.slice none 0 0)).setCell (off := 3) (.slice none 0 0)).setCell (off := 4) (.int .i64 0)).setCell (off := 5) (.bool false)
  generalize ((((((w3.setCell ⟨w.heap.size, 0, none⟩ (.int .i64 0)).setCell ⟨w.heap.size, 1, none⟩ (.string ⟨#[]⟩)).setCell ⟨w.heap.size, 2, none⟩ (.slice none 0 0)).setCell ⟨w.heap.size, 3, none⟩ (.slice none 0 0)).setCell ⟨w.heap.size, 4, none⟩ (.int .i64 0)).setCell ⟨w.heap.size, 5, none⟩ (.bool false)) = W at *
  have g0 : W.cell? ⟨w.heap.size, 0, none⟩ = some (.int .i64 0) := h4.cell rfl
  have g1 : W.cell? ⟨w.heap.size, 1, none⟩ = some (.string ⟨#[]⟩) := h4.cell rfl
  have g2 : W.cell? ⟨w.heap.size, 2, none⟩ = some (.slice none 0 0) := h4.cell rfl
  have g3 : W.cell? ⟨w.heap.size, 3, none⟩ = some (.slice none 0 0) := h4.cell rfl
  have g4 : W.cell? ⟨w.heap.size, 4, none⟩ = some (.int .i64 0) := h4.cell rfl
  have g5 : W.cell? ⟨w.heap.size, 5, none⟩ = some (.bool false) := h4.cell rfl
  refine bodyPost_ret (v := .tuple #[(doneE 0).val, .bool false]) ?_ rfl ?_
  · simp [results, Tryz.results13, go_sem, g0, g1, g2, g3, g4, g5]
  · exact ⟨rfl, h4.right⟩

end Go.Proofs.YtnjgddckejpddaaGreatDoor
