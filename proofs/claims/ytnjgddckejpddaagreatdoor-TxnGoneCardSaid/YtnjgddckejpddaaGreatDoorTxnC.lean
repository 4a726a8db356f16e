/-
  Requests that are under way: told, changed.
-/
import Derived.Test.YtnjgddckejpddaaGreatDoorTxnB
import Derived.Laws.ResultCell
namespace Go.Proofs.YtnjgddckejpddaaGreatDoor
open Go.RowKit Go.Proofs.YtnjgddckejpddaaGreatDoor.Sep

/-- How a request was answered. -/
structure DoneS where
  e : Int
  text : ByteArray
  ia : Option Addr
  il : Nat
  ic : Nat
  da : Option Addr
  dl : Nat
  dc : Nat
  stamp : Int
  wrote : Bool

abbrev DoneS.val (d : DoneS) : Value := .agg #[.int .i64 d.e, .string d.text, .slice d.ia d.il d.ic, .slice d.da d.dl d.dc, .int .i64 d.stamp, .bool d.wrote]

set_option maxRecDepth 100000 in
set_option maxHeartbeats 400000 in
theorem told_calls {s : Out} {w : World} {tb bs bb : Nat} {r : Req} {tries : Nat} {trying over : Bool} {stamp : Int} {todo got : Value} {R : Hp} (d : DoneS) (h : Sat s w (TxnO tb bs bb r tries trying over stamp todo got * R)) :
    Calls Tryz.prog 24 #[.pointer (some ⟨tb, 0, none⟩), d.val] w fun e w' => e = .returned (.tuple #[d.val, .bool true]) ∧ Sat s w' (TxnO tb bs bb r tries trying true stamp todo got * R) := by
  obtain ⟨de, dt, ia, il, ic, da, dl, dc, ds, dw⟩ := d
  have c8 : w.cell? ⟨tb, 8, none⟩ = some (.bool over) := h.cell rfl
  have f8 : w.frozen? ⟨tb, 8, none⟩ = false := h.free
  have hlt := h.lt
  have H := hid h
  clear h
  go_enter Tryz.func24, Tryz.ntmps24
  go_wp2
  have h2 : Sat s (w.setCell ⟨tb, 8, none⟩ (.bool true)) (TxnO tb bs bb r tries trying true stamp todo got * R) := H.out.setCell (off := 8) (.bool true)
  exact bodyPost_ret (v := .tuple #[.agg #[.int .i64 de, .string dt, .slice ia il ic, .slice da dl dc, .int .i64 ds, .bool dw], .bool true]) (by simp [results, Tryz.results24, go_sem]) rfl ⟨rfl, ((h2.alloc _).right.alloc _).right⟩

def keyStr : Value → ByteArray
  | .string k => k
  | _ => ⟨#[]⟩

/-- Has something that was read changed? -/
def changedT (σ : StoreS) (τ : TryS) : Bool := τ.got.any fun p => changedS ((aget p.1 σ.keys).getD []) τ.stamp

set_option maxRecDepth 100000 in
set_option maxHeartbeats 1000000 in
theorem changed_txn {s : Out} {w : World} {tb bs bb : Nat} {r : Req} {tries : Nat} {τ : TryS} {σ : StoreS} {R : Hp} (h : Sat s w (TxnTry tb bs bb r tries τ * (StoreAt bs σ * R))) :
    Calls Tryz.prog 45 #[.pointer (some ⟨tb, 0, none⟩)] w fun e w' => e = .returned (.bool (changedT σ τ)) ∧ Below w.heap.size w w' := by
  obtain ⟨tv, gb, ges, gc, h1, h2⟩ := TxnTry.open_ h
  have c11 : w.cell? ⟨tb, 11, none⟩ = some (.map (some gb)) := h2.cell rfl
  have hgs := h2.right.right
  have hb : w.heap[gb]? = some (.map ges gc) := hgs.get
  have hlt : gb < w.heap.size := hgs.lt
  have htb : tb < w.heap.size := h2.lt
  have hr := range_run Tryz.underlying66 hb
  have c0 : w.cell? ⟨tb, 0, none⟩ = some (.pointer (some ⟨bs, 0, none⟩)) := h2.cell rfl
  have c9 : w.cell? ⟨tb, 9, none⟩ = some (.int .i64 τ.stamp) := h2.cell rfl
  have hst : Sat s w (StoreAt bs σ * (TxnTry tb bs bb r tries τ * R)) := by
    rw [show StoreAt bs σ * (TxnTry tb bs bb r tries τ * R) = TxnTry tb bs bb r tries τ * (StoreAt bs σ * R) by ac_rfl]; exact h
  have HB := hid hb
  have HH := hid h1
  have HS := hid hst
  have HQ : Hid (w.cell? ⟨tb, 0, none⟩ = some (.pointer (some ⟨bs, 0, none⟩)) ∧ w.cell? ⟨tb, 9, none⟩ = some (.int .i64 τ.stamp)) := ⟨c0, c9⟩
  clear h h1 h2 hgs hb hst c0 c9
  go_enter Tryz.func45, Tryz.ntmps45
  go_wp2
  clear hr
  have Hb0 : Hid (Below w.heap.size w (w.alloc (.mapIter (some gb) gc #[] gc))) := (Below.refl _ _).alloc (Nat.le_refl _) _
  have Hi0 : Hid ((w.alloc (.mapIter (some gb) gc #[] gc)).heap[w.heap.size]? = some (.mapIter (some gb) gc #[] gc)) := by show (w.heap.push _)[w.heap.size]? = _; simp
  generalize hw0 : w.alloc (.mapIter (some gb) gc #[] gc) = w0 at *
  clear hw0
  go_loopg [3] ges.toList.length (fun m _ wr => ∃ (seen : Array Nat) (left : List MapEntry), m = left.length ∧ Ranging .string ges gc (amap mv τ.got) seen left ∧
      ((amap mv τ.got).any (fun p => changedS ((aget p.1 σ.keys).getD []) τ.stamp)) = (left.any fun e => changedS ((aget (keyStr e.key) σ.keys).getD []) τ.stamp) ∧ wr.heap[w.heap.size]? = some (.mapIter (some gb) gc seen gc) ∧ Below w.heap.size w wr)
  case atStart =>
    refine ⟨#[], ges.toList, rfl, Ranging.start HH.out, ?_, Hi0.out, Hb0.out⟩
    have h1 := congrArg (fun l : List (Value × Value) => l.any fun p => changedS ((aget (keyStr p.1) σ.keys).getD []) τ.stamp) HH.out.kv
    simp only [List.any_map, Function.comp_def] at h1
    exact h1.symm
  case round =>
    obtain ⟨seen, left, rfl, hrg, hk, hit, hbl⟩ := hrel
    have hbk : wr.heap[gb]? = some (.map ges gc) := by rw [hbl.block gb hlt]; exact HB.out
    have hsat := Sat.two (by omega) hit hbk
    have HK := hid hk
    clear hk hit hbk
    rcases next_cases (P := Tryz.prog) hrg hsat 0 with ⟨hl, n, hrun⟩ | ⟨e, left', w', hperm, hrg', hrun, hsat', hsz, hbl', hent⟩
    · subst hl
      clear hrg hsat
      have HF : Hid (changedT σ τ = false) := by
        have := HK.out
        unfold Hid changedT
        simpa [amap, List.any_map, Function.comp_def] using this
      clear HK
      go_wp2
      go_ret
      exact ⟨by rw [HF.out]; rfl, hbl.drewN' n⟩
    · obtain ⟨_, p, hp, hkey, hval⟩ := hrg.mem (e := e) (hperm.mem_iff.2 (by simp))
      have hany : (left.any fun e => changedS ((aget (keyStr e.key) σ.keys).getD []) τ.stamp) = (changedS ((aget p.1 σ.keys).getD []) τ.stamp || left'.any fun e => changedS ((aget (keyStr e.key) σ.keys).getD []) τ.stamp) := by
        rw [hperm.any_eq, List.any_cons, hkey]; rfl
      have HK2 := hid (HK.out.trans hany)
      have hll : left.length = left'.length + 1 := by simpa using hperm.length_eq
      have hit' := hsat'.get
      have hbl2 := hbl.trans (hbl' _ (Nat.le_refl _))
      rw [hkey] at hrun hent
      have HI : Hid (w'.heap[w.heap.size]? = some (.mapIter (some gb) gc (seen.push e.born) gc)) := hit'
      have HR := hid hrg'
      have HL : Hid (left.length = left'.length + 1) := hll
      have hc0 : w'.drew.cell? ⟨tb, 0, none⟩ = some (.pointer (some ⟨bs, 0, none⟩)) ∧ w'.drew.cell? ⟨tb, 9, none⟩ = some (.int .i64 τ.stamp) := ⟨(hbl2.cell htb).trans HQ.out.1, (hbl2.cell htb).trans HQ.out.2⟩
      have HCh := hid (Changed_sat (HS.out.below hbl2).drew p.1 τ.stamp)
      clear hrg hsat hsat' hit' hll hperm hp hkey hrg' hsz hbl' HK hval hany
      obtain ⟨pk, pv⟩ := p
      dsimp only at HK2 hrun hent HCh
      cases hch : changedS ((aget pk σ.keys).getD []) τ.stamp
      all_goals
        rw [hch] at HCh HK2
        go_wp2
        go_region_held3 (fun w' => w'.cell? ⟨tb, 0, none⟩ = some (.pointer (some ⟨bs, 0, none⟩)) ∧ w'.cell? ⟨tb, 9, none⟩ = some (.int .i64 τ.stamp)) (with_reducible first | exact hc0)
          (first | (go_at_call 60; ((with_reducible refine HCh.out.mono ?_); rintro e w' ⟨rfl, rfl⟩)))
      · go_wp2
        go_roundg left'.length
        case measure => have := HL.out; omega
        case rel => exact ⟨_, left', rfl, HR.out, by rw [HK2.out, Bool.false_or], HI.out, hbl2.drew⟩
      · have HF : Hid (changedT σ τ = true) := by
          have := HK2.out
          unfold Hid changedT
          simpa [amap, List.any_map, Function.comp_def] using this
        go_wp2
        go_ret
        exact ⟨by rw [HF.out]; rfl, hbl2.drew⟩

end Go.Proofs.YtnjgddckejpddaaGreatDoor
