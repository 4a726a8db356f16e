/-
  txn.more, where it has no loop.
-/
import Derived.Test.YtnjgddckejpddaaGreatDoorTxnS
import Derived.BigQuiet
namespace Go.Proofs.YtnjgddckejpddaaGreatDoor
open Go.RowKit Go.Proofs.YtnjgddckejpddaaGreatDoor.Sep

theorem str_neq_run {a b : ByteArray} (h : a ≠ b) (W : World) : (binOp .eql 9 (.string a) (.string b)).run Tryz.prog W = .ok (.bool false) W := by
  rw [eql_string_run Tryz.underlying9, decide_eq_false h]


set_option maxRecDepth 100000 in
set_option maxHeartbeats 1000000 in
theorem more_none {s : Out} {w : World} {tb bs bb : Nat} {r : Req} {tries : Nat} {τ : TryS} {R : Hp} (key : ByteArray) (h : Sat s w (TxnTry tb bs bb r tries τ * R)) (h3 : r.kind ≠ 3) (h7 : r.kind ≠ 7) :
    Calls Tryz.prog 40 #[.pointer (some ⟨tb, 0, none⟩), .string key] w fun e w' => e = .returned (.slice none 0 0) ∧ Below w.heap.size w w' := by
  obtain ⟨tv, gb, ges, gc, h1, h2⟩ := TxnTry.open_ h
  have c2 : w.cell? ⟨tb, 2, none⟩ = some (.int .i64 r.kind) := h2.cell rfl
  have q0 : w.drew.cell? ⟨tb, 2, none⟩ = some (.int .i64 r.kind) := c2
  have k3 : (r.kind == 3) = false := by simpa using h3
  have k7 : (r.kind == 7) = false := by simpa using h7
  clear h h1 h2
  generalize r.kind = kd at *
  go_enter Tryz.func40, Tryz.ntmps40
  go_wp2
  go_quiet (fail)
  go_wp2
  go_ret
  exact ⟨rfl, (Below.refl _ _).drewN' nq⟩

set_option maxRecDepth 100000 in
set_option maxHeartbeats 1000000 in
theorem more_append_none {s : Out} {w : World} {tb bs bb : Nat} {r : Req} {tries : Nat} {τ : TryS} {R : Hp} (key : ByteArray) (h : Sat s w (TxnTry tb bs bb r tries τ * R)) (h3 : r.kind = 3) (hk : key ≠ ⟨#[100]⟩) :
    Calls Tryz.prog 40 #[.pointer (some ⟨tb, 0, none⟩), .string key] w fun e w' => e = .returned (.slice none 0 0) ∧ Below w.heap.size w w' := by
  obtain ⟨tv, gb, ges, gc, h1, h2⟩ := TxnTry.open_ h
  have c2 : w.cell? ⟨tb, 2, none⟩ = some (.int .i64 r.kind) := h2.cell rfl
  rw [h3] at c2
  have hne : (key.toList == (⟨#[100]⟩ : ByteArray).toList) = false := by rw [str_eq]; exact decide_eq_false hk
  have hne3 : (key.toList == [100]) = false := by rw [show ([100] : List UInt8) = (⟨#[100]⟩ : ByteArray).toList by rw [ByteArray.toList_eq]]; exact hne
  clear h h1 h2 hk
  go_enter Tryz.func40, Tryz.ntmps40
  go_wp2
  go_quiet (fail)
  go_wp2
  go_ret
  exact ⟨rfl, (Below.refl _ _).drewN' nq⟩

/-- The keys that an RAppend reads behind the directory. -/
def moreApp (τ : TryS) (name : ByteArray) : List ByteArray := if hasB (parts (τ.val ⟨#[100]⟩).1) name = true then [(⟨#[102]⟩ : ByteArray) ++ name] else []

set_option maxRecDepth 100000 in
set_option maxHeartbeats 1000000 in
theorem more_append (HSp : SplitSpec) (HCt : ContainsSpec) {s : Out} {w : World} {tb bs bb : Nat} {r : Req} {tries : Nat} {τ : TryS} {R : Hp} (h : Sat s w (TxnTry tb bs bb r tries τ * R)) (h3 : r.kind = 3) (hn : r.name.size ≤ 1048576)
    (hs : (τ.val ⟨#[100]⟩).1.size ≤ 900000) :
    Calls Tryz.prog 40 #[.pointer (some ⟨tb, 0, none⟩), .string ⟨#[100]⟩] w fun e w' => ∃ v, e = .returned v ∧ Fresh w w' (Row 9 1 v (moreApp τ r.name).length (strs (moreApp τ r.name))) := by
  have HN := hid (names_calls HSp ⟨#[100]⟩ h.drew (by omega))
  obtain ⟨tv, gb, ges, gc, h1, h2⟩ := TxnTry.open_ h
  have htb := h2.lt
  have c2 : w.cell? ⟨tb, 2, none⟩ = some (.int .i64 r.kind) := h2.cell rfl
  have c3 : w.cell? ⟨tb, 3, none⟩ = some (.string r.name) := h2.cell rfl
  rw [h3] at c2
  have hpl : (parts (τ.val ⟨#[100]⟩).1).length ≤ 900001 := by
    rw [parts_length]; have := pieces_le (τ.val ⟨#[100]⟩).1; omega
  have q0 : w.drew.cell? ⟨tb, 2, none⟩ = some (.int .i64 3) ∧ w.drew.cell? ⟨tb, 3, none⟩ = some (.string r.name) := ⟨c2, c3⟩
  have HPL := hid hpl
  clear h h1 h2 hs hpl
  have HM : Hid (moreApp τ r.name = if hasB (parts (τ.val ⟨#[100]⟩).1) r.name = true then [(⟨#[102]⟩ : ByteArray) ++ r.name] else []) := rfl
  generalize moreApp τ r.name = ma at *
  generalize hnm : parts (τ.val ⟨#[100]⟩).1 = nm at *
  clear hnm
  have HCA : Hid (∀ W v, View 1 W v nm.length (strs nm) → Calls Tryz.prog 52 #[v, .string r.name] W fun e w' => e = .returned (.bool (hasB nm r.name)) ∧ w' = W) :=
    fun W v h => HCt W v nm r.name h (by have := HPL.out; omega)
  have hsz : 1 + r.name.size ≤ 9223372036854775807 := by omega
  have HFS := hid fresh_strs
  cases hh : hasB nm r.name
  all_goals
    simp only [hh] at HCA
    go_enter Tryz.func40, Tryz.ntmps40
    go_wp2
    go_region_held3 (fun w' => w'.cell? ⟨tb, 2, none⟩ = some (.int .i64 3) ∧ w'.cell? ⟨tb, 3, none⟩ = some (.string r.name)) (with_reducible first | exact q0 | exact q1)
      (first
        | (go_at_call 53; (with_reducible refine HN.out.mono ?_); rintro e w2 ⟨v, rfl, hf⟩; have hb2 := hid hf.below; have HCtN := hid (HCA.out w2 _ (Row.view hf)); have q1 : w2.cell? ⟨tb, 2, none⟩ = some (.int .i64 3) ∧ w2.cell? ⟨tb, 3, none⟩ = some (.string r.name) := ⟨(hf.below.cell htb).trans q0.1, (hf.below.cell htb).trans q0.2⟩; clear hf)
        | (go_at_call 52; (with_reducible refine HCtN.out.mono ?_); rintro e w' ⟨rfl, hw⟩; subst hw))
  · go_wp2
    go_ret
    have hma : ma = [] := by rw [HM.out, hh]; rfl
    subst hma
    exact ⟨_, rfl, Row.shut_none _ _ _ ((Sat.old w).drew.below hb2.out)⟩
  · go_wp2
    go_ret
    have hma : ma = [(⟨#[102]⟩ : ByteArray) ++ r.name] := by rw [HM.out, hh]; rfl
    subst hma
    exact ⟨_, rfl, ((Sat.old w).drew.below hb2.out).fresh (HFS.out w' [(⟨#[102]⟩ : ByteArray) ++ r.name] (by simp))⟩

end Go.Proofs.YtnjgddckejpddaaGreatDoor
