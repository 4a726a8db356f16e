/-
  txn.show.
-/
import Derived.Test.YtnjgddckejpddaaGreatDoorTxnC
namespace Go.Proofs.YtnjgddckejpddaaGreatDoor
open Go.RowKit Go.Proofs.YtnjgddckejpddaaGreatDoor.Sep

/-- What a show answers. -/
def showR (τ : TryS) (name : ByteArray) : Int × ByteArray := if (τ.val (⟨#[102]⟩ ++ name)).2 = true then (0, (τ.val (⟨#[102]⟩ ++ name)).1) else (9, ⟨#[]⟩)

set_option maxRecDepth 100000 in
set_option maxHeartbeats 400000 in
theorem show_calls {s : Out} {w : World} {tb bs bb : Nat} {r : Req} {tries : Nat} {τ : TryS} {R : Hp} (h : Sat s w (TxnTry tb bs bb r tries τ * R)) (hn : r.name.size ≤ 1048576) :
    Calls Tryz.prog 42 #[.pointer (some ⟨tb, 0, none⟩)] w fun e w' => e = .returned (.agg #[.int .i64 (showR τ r.name).1, .string (showR τ r.name).2, .slice none 0 0, .slice none 0 0]) ∧ Below w.heap.size w w' := by
  obtain ⟨tv, gb, ges, gc, h1, h2⟩ := TxnTry.open_ h
  have c11 : w.cell? ⟨tb, 11, none⟩ = some (.map (some gb)) := h2.cell rfl
  have c3 : w.cell? ⟨tb, 3, none⟩ = some (.string r.name) := h2.cell rfl
  have HL : ∀ W : World, Below w.heap.size w W → (Instr.lookup 66 (.map (some gb)) (.string (⟨#[102]⟩ ++ r.name)) false).run Tryz.prog W = .ok (.agg #[.string (τ.val (⟨#[102]⟩ ++ r.name)).1, .bool (τ.val (⟨#[102]⟩ ++ r.name)).2]) W :=
    fun W hb => got_look ((hb.block gb h2.right.right.lt).trans h2.right.right.get) h1 _
  unfold showR
  have htb := h2.lt
  have hbl : Below w.heap.size w (w.alloc (.cells #[.int .i64 0, .string ⟨#[]⟩, .slice none 0 0, .slice none 0 0] 40)).drew := ((Below.refl _ _).alloc (Nat.le_refl _) _).drew
  have hl0 := HL _ hbl
  have hbl1 : ∀ o : Obj, Below w.heap.size w ((w.alloc (.cells #[.int .i64 0, .string ⟨#[]⟩, .slice none 0 0, .slice none 0 0] 40)).alloc o).drew := fun o => (((Below.refl _ _).alloc (Nat.le_refl _) _).alloc (Nat.le_of_lt (by show w.heap.size < (w.heap.push _).size; simp)) o).drew
  have hl1 := fun o => HL _ (hbl1 o)
  have q1 : ∀ o : Obj, ((w.alloc (.cells #[.int .i64 0, .string ⟨#[]⟩, .slice none 0 0, .slice none 0 0] 40)).alloc o).drew.cell? ⟨tb, 11, none⟩ = some (.map (some gb)) ∧ ((w.alloc (.cells #[.int .i64 0, .string ⟨#[]⟩, .slice none 0 0, .slice none 0 0] 40)).alloc o).drew.cell? ⟨tb, 3, none⟩ = some (.string r.name) :=
    fun o => ⟨((hbl1 o).cell htb).trans c11, ((hbl1 o).cell htb).trans c3⟩
  have HB : Hid (∀ o1 o2 : Obj, Below w.heap.size w ((w.alloc o1).alloc o2).drew) := fun o1 o2 => (((Below.refl _ _).alloc (Nat.le_refl _) o1).alloc (Nat.le_of_lt (by show w.heap.size < (w.heap.push _).size; simp)) o2).drew
  have hsz : 1 + r.name.size ≤ 9223372036854775807 := by omega
  have q0 : (w.alloc (.cells #[.int .i64 0, .string ⟨#[]⟩, .slice none 0 0, .slice none 0 0] 40)).drew.cell? ⟨tb, 11, none⟩ = some (.map (some gb)) ∧ (w.alloc (.cells #[.int .i64 0, .string ⟨#[]⟩, .slice none 0 0, .slice none 0 0] 40)).drew.cell? ⟨tb, 3, none⟩ = some (.string r.name) :=
    ⟨(hbl.cell htb).trans c11, (hbl.cell htb).trans c3⟩
  clear h h1 h2 HL
  generalize (τ.val (⟨#[102]⟩ ++ r.name)).1 = x at *
  generalize (τ.val (⟨#[102]⟩ ++ r.name)).2 = y at *
  cases y
  all_goals
    go_enter Tryz.func42, Tryz.ntmps42
    go_wp2
    go_region_held3 (fun w' => w'.cell? ⟨tb, 11, none⟩ = some (.map (some gb)) ∧ w'.cell? ⟨tb, 3, none⟩ = some (.string r.name)) (with_reducible first | exact q0 | exact q1 _) (fail)
    all_goals
      go_wp2
      first
        | exact bodyPost_ret (v := .agg #[.int .i64 9, .string ⟨#[]⟩, .slice none 0 0, .slice none 0 0]) (by simp [results, Tryz.results42, go_sem]) rfl ⟨rfl, HB.out _ _⟩
        | exact bodyPost_ret (v := .agg #[.int .i64 0, .string x, .slice none 0 0, .slice none 0 0]) (by simp [results, Tryz.results42, go_sem]) rfl ⟨rfl, HB.out _ _⟩

end Go.Proofs.YtnjgddckejpddaaGreatDoor
