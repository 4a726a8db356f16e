/-
  What an RDel, an RAppend writes: txn.writes.
-/
import Derived.Test.YtnjgddckejpddaaGreatDoorDel
namespace Go.Proofs.YtnjgddckejpddaaGreatDoor
open Go.RowKit Go.Proofs.YtnjgddckejpddaaGreatDoor.Sep

set_option maxRecDepth 100000 in
set_option maxHeartbeats 1000000 in
theorem writes_del (L : LibS) {s : Out} {w : World} {tb bs bb : Nat} {r : Req} {tries : Nat} {τ : TryS} {R : Hp}
    (h : Sat s w (TxnTry tb bs bb r tries τ * R)) (hk : r.kind = 2) (hs : (τ.val ⟨#[100]⟩).1.size ≤ 900000) (hn : r.name.size ≤ 100000) :
    Calls Tryz.prog 44 #[.pointer (some ⟨tb, 0, none⟩)] w fun e w' => ∃ v ws ec, e = .returned (.tuple #[v, .int .i64 ec]) ∧
      GoneOk (parts (τ.val ⟨#[100]⟩).1) r.name ⟨#[100]⟩ ⟨#[102]⟩ ws ec ∧ Fresh w w' (Row 73 3 v ws.length (cellsOf Wr.cells ws)) := by
  have HS := hid (goneT_calls L ⟨#[100]⟩ ⟨#[102]⟩ h hs hn (by decide))
  obtain ⟨tv, gb, ges, gc, _, h2⟩ := TxnTry.open_ h
  have c2 : w.cell? ⟨tb, 2, none⟩ = some (.int .i64 r.kind) := h2.cell rfl
  rw [hk] at c2
  clear h h2 hs
  go_enter Tryz.func44, Tryz.ntmps44
  go_wp2_with (first
    | (go_at_call 59; (with_reducible refine HS.out.mono ?_); rintro e w' ⟨v, ws, ec, rfl, hset, hf⟩
       obtain ⟨_, _, a, cap, rfl, _, _⟩ := Row.len hf
       have HF := hid hf
       have HSet := hid hset
       clear hf hset))
  go_ret2
  exact ⟨_, ws, ec, rfl, HSet.out, HF.out⟩

/-- What an RAppend writes, or why it does not. -/
def AppOk (names : List ByteArray) (name was text : ByteArray) (ws : List Wr) (e : Int) : Prop :=
  if hasB names name = true then (if 600 < (was ++ text).size then ws = [] ∧ e = 10 else SetOk names name ⟨#[100]⟩ ⟨#[102]⟩ (was ++ text) 8 ws e) else ws = [] ∧ e = 9

set_option maxRecDepth 100000 in
set_option maxHeartbeats 2000000 in
theorem writes_app (L : LibS) {s : Out} {w : World} {tb bs bb : Nat} {r : Req} {tries : Nat} {τ : TryS} {R : Hp}
    (h : Sat s w (TxnTry tb bs bb r tries τ * R)) (hk : r.kind = 3) (hs : (τ.val ⟨#[100]⟩).1.size ≤ 900000) (hn : r.name.size ≤ 100000) (ht : r.text.size ≤ 100000) (hf : (τ.val (⟨#[102]⟩ ++ r.name)).1.size ≤ 900000) :
    Calls Tryz.prog 44 #[.pointer (some ⟨tb, 0, none⟩)] w fun e w' => ∃ v ws ec, e = .returned (.tuple #[v, .int .i64 ec]) ∧
      AppOk (parts (τ.val ⟨#[100]⟩).1) r.name (τ.val (⟨#[102]⟩ ++ r.name)).1 r.text ws ec ∧ Fresh w w' (Row 73 3 v ws.length (cellsOf Wr.cells ws)) := by
  have HN := hid (names_calls L.sp ⟨#[100]⟩ h.drew (by omega))
  have HS : Hid (∀ (W : World) (x : ByteArray), Below w.heap.size w W → Calls Tryz.prog 57 #[.pointer (some ⟨tb, 0, none⟩), .string ⟨#[100]⟩, .string ⟨#[102]⟩, .string x, .int .i64 8] W fun e w' => ∃ v ws ec, e = .returned (.tuple #[v, .int .i64 ec]) ∧
      SetOk (parts (τ.val ⟨#[100]⟩).1) r.name ⟨#[100]⟩ ⟨#[102]⟩ x 8 ws ec ∧ Fresh W w' (Row 73 3 v ws.length (cellsOf Wr.cells ws))) :=
    fun W x hb => set_calls L.sp L.so L.co L.ct ⟨#[100]⟩ ⟨#[102]⟩ x 8 (h.below hb) hs (by omega) (by decide) (with_bound hs hn)
  obtain ⟨tv, gb, ges, gc, h1, h2⟩ := TxnTry.open_ h
  have htb : tb < w.heap.size := h2.lt
  have hgb : gb < w.heap.size := h2.right.right.lt
  have hget := h2.right.right.get
  have c2 : w.cell? ⟨tb, 2, none⟩ = some (.int .i64 r.kind) := h2.cell rfl
  have c3 : w.cell? ⟨tb, 3, none⟩ = some (.string r.name) := h2.cell rfl
  have c4 : w.cell? ⟨tb, 4, none⟩ = some (.string r.text) := h2.cell rfl
  have c11 : w.cell? ⟨tb, 11, none⟩ = some (.map (some gb)) := h2.cell rfl
  rw [hk] at c2
  have HL : Hid (∀ W : World, Below w.heap.size w W → (Instr.lookup 66 (.map (some gb)) (.string (⟨#[102]⟩ ++ r.name)) false).run Tryz.prog W = .ok (.agg #[.string (τ.val (⟨#[102]⟩ ++ r.name)).1, .bool (τ.val (⟨#[102]⟩ ++ r.name)).2]) W) :=
    fun W hb => got_look ((hb.block gb hgb).trans hget) h1 _
  have HFm : Hid (∀ W, (Instr.field 87 (.agg #[.string (τ.val (⟨#[102]⟩ ++ r.name)).1, .bool (τ.val (⟨#[102]⟩ ++ r.name)).2]) 0).run Tryz.prog W = .ok (.string (τ.val (⟨#[102]⟩ ++ r.name)).1) W) := fun W => field_maybe _ _ W
  have hpl := parts_len (τ.val ⟨#[100]⟩).1
  unfold AppOk
  generalize hnm : parts (τ.val ⟨#[100]⟩).1 = nm at *
  generalize (τ.val (⟨#[102]⟩ ++ r.name)).1 = ft at *
  generalize (τ.val (⟨#[102]⟩ ++ r.name)).2 = fb at *
  have HCA : Hid (∀ W v, View 1 W v nm.length (strs nm) → Calls Tryz.prog 52 #[v, .string r.name] W fun e w' => e = .returned (.bool (hasB nm r.name)) ∧ w' = W) :=
    fun W v h => L.ct W v nm r.name h (by omega)
  have hsz : 1 + r.name.size ≤ 9223372036854775807 := by omega
  have hsz2 : ¬ 9223372036854775807 < 1 + r.name.size := by omega
  have hsz3 : ft.size + r.text.size ≤ 9223372036854775807 := by omega
  have hsz4 : ¬ 9223372036854775807 < ft.size + r.text.size := by omega
  have q0 : w.drew.cell? ⟨tb, 3, none⟩ = some (.string r.name) := c3
  clear h h1 h2 hs hnm hpl hget hn ht hf
  cases hh : hasB nm r.name
  all_goals
    simp only [hh] at HCA ⊢
    go_enter Tryz.func44, Tryz.ntmps44
    go_wp2
    go_region_held3 (fun w' => w'.cell? ⟨tb, 3, none⟩ = some (.string r.name)) (with_reducible first | exact q0 | exact q1)
      (first
        | (go_at_call 53; (with_reducible refine HN.out.mono ?_); rintro e w2 ⟨v, rfl, hf⟩; have HB2 := hid hf.below; have HCtN := hid (HCA.out w2 _ (Row.view hf)); have q1 : w2.cell? ⟨tb, 3, none⟩ = some (.string r.name) := (hf.below.cell htb).trans q0; clear hf)
        | (go_at_call 52; (with_reducible refine HCtN.out.mono ?_); rintro e w' ⟨rfl, hw⟩; subst hw))
  · go_wp2
    go_ret2
    exact ⟨_, [], 9, rfl, by simp, Row.shut_none _ _ _ ((Sat.old w).drew.below HB2.out)⟩
  · have hb2 : Below w.heap.size w w' := ((Below.refl _ _).drew).trans HB2.out
    have d3 : w'.cell? ⟨tb, 3, none⟩ = some (.string r.name) := (hb2.cell htb).trans c3
    have d4 : w'.cell? ⟨tb, 4, none⟩ = some (.string r.text) := (hb2.cell htb).trans c4
    have d11 : w'.cell? ⟨tb, 11, none⟩ = some (.map (some gb)) := (hb2.cell htb).trans c11
    have hl := fun n => HL.out (w'.drewN n) (hb2.drewN' n)
    have hfm := HFm.out
    have HSn := hid (fun n => HS.out (w'.drewN n) (ft ++ r.text) (hb2.drewN' n))
    have HB := hid hb2
    clear hb2 HL HS HFm HB2 q0 q1 c2 c3 c4 c11
    have hsx : (ft ++ r.text).size ≤ 9223372036854775807 := by rw [ByteArray.size_append]; omega
    go_wp2
    go_quiet (fail)
    generalize hx : ft ++ r.text = x at *
    by_cases h6 : 600 < x.size
    · go_wp2
      go_ret2
      exact ⟨_, [], 10, rfl, by simp [h6], Row.shut_none _ _ _ ((Sat.old w).below (HB.out.drewN' _))⟩
    · have HN6 := hid h6
      go_wp2_with (first
        | (go_at_call 57; (with_reducible refine (HSn.out _).mono ?_); rintro e w4 ⟨v4, ws, ec, rfl, hset, hf⟩
           obtain ⟨_, _, a4, cap4, rfl, _, _⟩ := Row.len hf
           have HF : Hid (Fresh w w4 (Row 73 3 (.slice a4 ws.length cap4) ws.length (cellsOf Wr.cells ws))) := ((Sat.old w).below (HB.out.drewN' _)).fresh hf
           have HSet := hid hset
           clear hf hset))
      go_ret2
      refine ⟨_, ws, ec, rfl, ?_, HF.out⟩
      first
        | exact HSet.out
        | (rw [if_neg HN6.out]; exact HSet.out)
        | (rw [if_pos rfl, if_neg HN6.out]; exact HSet.out)

end Go.Proofs.YtnjgddckejpddaaGreatDoor
