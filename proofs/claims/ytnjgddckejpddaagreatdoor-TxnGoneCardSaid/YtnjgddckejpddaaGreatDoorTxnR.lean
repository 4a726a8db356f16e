/-
  txn.read.
-/
import Derived.Test.YtnjgddckejpddaaGreatDoorTxnM
namespace Go.Proofs.YtnjgddckejpddaaGreatDoor
open Go.RowKit Go.Proofs.YtnjgddckejpddaaGreatDoor.Sep

/-- What the store tells of a key at a stamp. -/
def StoreS.at_ (σ : StoreS) (k : ByteArray) (t : Nat) : ByteArray × Bool := ((readV ((aget k σ.keys).getD []) t).getD ⟨#[]⟩, (readV ((aget k σ.keys).getD []) t).isSome)

set_option maxRecDepth 100000 in
set_option maxHeartbeats 1000000 in
theorem read_calls {s : Out} {w : World} {tb bs bb : Nat} {r : Req} {tries : Nat} {τ : TryS} {σ : StoreS} {R : Hp} {k : ByteArray} {rest mk : List ByteArray} (ht : τ.todo = k :: rest) (hl : rest.length ≤ 100000) (hmk : mk.length ≤ 100000)
    (h : Sat s w (TxnTry tb bs bb r tries τ * (StoreAt bs σ * R)))
    (hm : ∀ W R', Sat s W (TxnTry tb bs bb r tries { τ with got := aset k (σ.at_ k τ.stamp) τ.got } * R') → Calls Tryz.prog 40 #[.pointer (some ⟨tb, 0, none⟩), .string k] W fun e w' => ∃ v, e = .returned v ∧ Fresh W w' (Row 9 1 v mk.length (strs mk))) :
    Calls Tryz.prog 26 #[.pointer (some ⟨tb, 0, none⟩)] w fun e w' => e = .returned (.tuple #[]) ∧ Sat s w' (TxnTry tb bs bb r tries ⟨τ.stamp, rest ++ mk, aset k (σ.at_ k τ.stamp) τ.got⟩ * (StoreAt bs σ * R)) := by
  have hst : Sat s w (StoreAt bs σ * (TxnTry tb bs bb r tries τ * R)) := by
    rw [show StoreAt bs σ * (TxnTry tb bs bb r tries τ * R) = TxnTry tb bs bb r tries τ * (StoreAt bs σ * R) by ac_rfl]; exact h
  have HR := hid (Read_sat hst.drew k τ.stamp)
  obtain ⟨tv, gb, ges, gc, h1, h2⟩ := TxnTry.open_ h
  rw [ht] at h2
  have q0 : w.drew.cell? ⟨tb, 0, none⟩ = some (.pointer (some ⟨bs, 0, none⟩)) ∧ w.drew.cell? ⟨tb, 9, none⟩ = some (.int .i64 τ.stamp) := ⟨h2.drew.cell rfl, h2.drew.cell rfl⟩
  have c10 : w.cell? ⟨tb, 10, none⟩ = some tv := h2.cell rfl
  have hrow := h2.right
  have hvw := Row.view hrow
  obtain ⟨_, ⟨_, hn0, _⟩ | ⟨g, cap, cur, rfl, hc1, hc2, hc3, hc4, hs5⟩⟩ := Row.open_ hrow
  · simp at hn0
  have cg : w.cell? ⟨g, 0, none⟩ = some (.string k) := by
    refine hs5.cell ?_
    have h6 := congrArg (fun l : List Value => l[0]?) hc4
    simp only [strs, List.map_cons, List.getElem?_cons_zero] at h6
    rw [List.getElem?_take_of_lt (by simp)] at h6
    simpa using h6
  have hgb : Sat s w.drew (pts gb (.map ges gc) * (TxnO tb bs bb r tries true false τ.stamp (.slice (some ⟨g, 0, none⟩) (k :: rest).length cap) (.map (some gb)) * (Row 9 1 (.slice (some ⟨g, 0, none⟩) (k :: rest).length cap) (k :: rest).length (strs (k :: rest)) * (StoreAt bs σ * R)))) := by
    have := h2.drew
    rwa [show TxnO tb bs bb r tries true false τ.stamp (.slice (some ⟨g, 0, none⟩) (k :: rest).length cap) (.map (some gb)) * (Row 9 1 (.slice (some ⟨g, 0, none⟩) (k :: rest).length cap) (k :: rest).length (strs (k :: rest)) * (pts gb (.map ges gc) * (StoreAt bs σ * R))) =
      pts gb (.map ges gc) * (TxnO tb bs bb r tries true false τ.stamp (.slice (some ⟨g, 0, none⟩) (k :: rest).length cap) (.map (some gb)) * (Row 9 1 (.slice (some ⟨g, 0, none⟩) (k :: rest).length cap) (k :: rest).length (strs (k :: rest)) * (StoreAt bs σ * R))) by ac_rfl] at this
  have c11 : w.drew.cell? ⟨tb, 11, none⟩ = some (.map (some gb)) := h2.drew.cell rfl
  obtain ⟨es', c', hup, hh⟩ := mapUpdate_run P.skeys (mt := 66) Tryz.underlying66 hgb.get h1 k (mv (σ.at_ k τ.stamp))
  have h3 := hgb.setObj (.map es' c')
  rw [aset_amap] at hh
  have hsh : Sat s { w.drew with heap := w.drew.heap.setIfInBounds gb (.map es' c') } (TxnTry tb bs bb r tries { τ with got := aset k (σ.at_ k τ.stamp) τ.got } * (StoreAt bs σ * R)) := by
    refine TxnTry.shut (tv := .slice (some ⟨g, 0, none⟩) (k :: rest).length cap) (gb := gb) (ges := es') (gc := c') hh ?_
    rw [show pts gb (.map es' c') * (TxnO tb bs bb r tries true false τ.stamp (.slice (some ⟨g, 0, none⟩) (k :: rest).length cap) (.map (some gb)) * (Row 9 1 (.slice (some ⟨g, 0, none⟩) (k :: rest).length cap) (k :: rest).length (strs (k :: rest)) * (StoreAt bs σ * R))) =
      TxnO tb bs bb r tries true false τ.stamp (.slice (some ⟨g, 0, none⟩) (k :: rest).length cap) (.map (some gb)) * (Row 9 1 (.slice (some ⟨g, 0, none⟩) (k :: rest).length cap) (k :: rest).length (strs (k :: rest)) * (pts gb (.map es' c') * (StoreAt bs σ * R))) by ac_rfl] at h3
    rw [ht]
    exact h3
  generalize ({ w.drew with heap := w.drew.heap.setIfInBounds gb (.map es' c') } : World) = W2 at *
  have h3' : Sat s W2 (TxnO tb bs bb r tries true false τ.stamp (.slice (some ⟨g, 0, none⟩) (k :: rest).length cap) (.map (some gb)) * (Row 9 1 (.slice (some ⟨g, 0, none⟩) (k :: rest).length cap) (k :: rest).length (strs (k :: rest)) * (pts gb (.map es' c') * (StoreAt bs σ * R)))) := by
    rw [show pts gb (.map es' c') * (TxnO tb bs bb r tries true false τ.stamp (.slice (some ⟨g, 0, none⟩) (k :: rest).length cap) (.map (some gb)) * (Row 9 1 (.slice (some ⟨g, 0, none⟩) (k :: rest).length cap) (k :: rest).length (strs (k :: rest)) * (StoreAt bs σ * R))) =
      TxnO tb bs bb r tries true false τ.stamp (.slice (some ⟨g, 0, none⟩) (k :: rest).length cap) (.map (some gb)) * (Row 9 1 (.slice (some ⟨g, 0, none⟩) (k :: rest).length cap) (k :: rest).length (strs (k :: rest)) * (pts gb (.map es' c') * (StoreAt bs σ * R))) by ac_rfl] at h3
    exact h3
  have c10' : W2.cell? ⟨tb, 10, none⟩ = some (.slice (some ⟨g, 0, none⟩) (k :: rest).length cap) := h3'.cell rfl
  obtain ⟨i, z, E, hby⟩ := elem_string
  obtain ⟨v2, hsl, hv2⟩ := View.drop (t := 33) Tryz.underlying33 ⟨i, E.hi, E.hs⟩ (Row.view h3'.right) 1 (by simp)
  have hv2' : View 1 W2 v2 rest.length (strs rest) := by
    have e1 : (k :: rest).length - 1 = rest.length := by simp
    have e2 : (strs (k :: rest)).drop (1 * 1) = strs rest := by simp [strs]
    rw [e1, e2] at hv2; exact hv2
  have HCl := hid (clone_string v2 rest.length _ W2 hv2' (one_strs rest) (by omega))
  have HMo : Hid (∀ W3 v3, Fresh W2 W3 (Row 9 1 v3 rest.length (strs rest)) → Calls Tryz.prog 40 #[.pointer (some ⟨tb, 0, none⟩), .string k] W3 fun e w' => ∃ v, e = .returned v ∧ ∃ v5 W5 td gt, (Builtin.append_ #[33, 33] 33 #[v3, v]).run Tryz.prog w' = .ok v5 W5 ∧
      (∃ a n c, v5 = .slice a n c) ∧ W5.cell? ⟨tb, 10, none⟩ = some td ∧ W5.frozen? ⟨tb, 10, none⟩ = false ∧
      Sat s (W5.setCell ⟨tb, 10, none⟩ v5) (TxnTry tb bs bb r tries ⟨τ.stamp, rest ++ mk, aset k (σ.at_ k τ.stamp) τ.got⟩ * (StoreAt bs σ * R)) ∧ gt = td) := by
    intro W3 v3 hf3
    have h4 := hsh.fresh hf3
    rw [show Row 9 1 v3 rest.length (strs rest) * (TxnTry tb bs bb r tries { τ with got := aset k (σ.at_ k τ.stamp) τ.got } * (StoreAt bs σ * R)) = TxnTry tb bs bb r tries { τ with got := aset k (σ.at_ k τ.stamp) τ.got } * (Row 9 1 v3 rest.length (strs rest) * (StoreAt bs σ * R)) by ac_rfl] at h4
    refine (hm W3 _ h4).mono ?_
    rintro e W4 ⟨v4, rfl, hf4⟩
    have h5 := h4.fresh hf4
    have hsrc := (Row.view h5).src (P := Tryz.prog) (tx := 33) Tryz.underlying33 (one_strs mk)
    rw [show Row 9 1 v4 mk.length (strs mk) * (TxnTry tb bs bb r tries { τ with got := aset k (σ.at_ k τ.stamp) τ.got } * (Row 9 1 v3 rest.length (strs rest) * (StoreAt bs σ * R))) =
      Row 9 1 v3 rest.length (strs rest) * (Row 9 1 v4 mk.length (strs mk) * (TxnTry tb bs bb r tries { τ with got := aset k (σ.at_ k τ.stamp) τ.got } * (StoreAt bs σ * R))) by ac_rfl] at h5
    obtain ⟨v5, W5, hrun, _, hsat⟩ := Row.append E h5 33 hsrc (by unfold maxLen; omega) (by rw [hby]; omega)
    obtain ⟨_, _, a5, cap5, hv5, _, _⟩ := Row.len hsat
    rw [show Row 9 1 v5 (rest.length + mk.length) (strs rest ++ strs mk) * (Row 9 1 v4 mk.length (strs mk) * (TxnTry tb bs bb r tries { τ with got := aset k (σ.at_ k τ.stamp) τ.got } * (StoreAt bs σ * R))) =
      Row 9 1 v4 mk.length (strs mk) * (TxnTry tb bs bb r tries { τ with got := aset k (σ.at_ k τ.stamp) τ.got } * (Row 9 1 v5 (rest.length + mk.length) (strs rest ++ strs mk) * (StoreAt bs σ * R))) by ac_rfl] at hsat
    obtain ⟨tv6, gb6, ges6, gc6, hh6, h6⟩ := TxnTry.open_ hsat.right
    have h7 := h6.setCell (off := 10) v5
    refine ⟨v4, rfl, v5, W5, tv6, tv6, hrun, ⟨_, _, _, hv5⟩, h6.cell rfl, h6.free, ?_, rfl⟩
    refine TxnTry.shut (tv := v5) (gb := gb6) (ges := ges6) (gc := gc6) hh6 ?_
    have h8 : Sat s (W5.setCell ⟨tb, 10, none⟩ v5) (TxnO tb bs bb r tries true false τ.stamp v5 (.map (some gb6)) * (Row 9 1 tv6 τ.todo.length (strs τ.todo) * (pts gb6 (.map ges6 gc6) * (Row 9 1 v5 (rest.length + mk.length) (strs rest ++ strs mk) * (StoreAt bs σ * R))))) := h7
    rw [show TxnO tb bs bb r tries true false τ.stamp v5 (.map (some gb6)) * (Row 9 1 tv6 τ.todo.length (strs τ.todo) * (pts gb6 (.map ges6 gc6) * (Row 9 1 v5 (rest.length + mk.length) (strs rest ++ strs mk) * (StoreAt bs σ * R)))) =
      Row 9 1 tv6 τ.todo.length (strs τ.todo) * (TxnO tb bs bb r tries true false τ.stamp v5 (.map (some gb6)) * (Row 9 1 v5 (rest.length + mk.length) (strs rest ++ strs mk) * (pts gb6 (.map ges6 gc6) * (StoreAt bs σ * R)))) by ac_rfl] at h8
    have h9 := h8.right
    show Sat s _ (TxnO tb bs bb r tries true false τ.stamp v5 (.map (some gb6)) * (Row 9 1 v5 (rest ++ mk).length (strs (rest ++ mk)) * (pts gb6 (.map ges6 gc6) * (StoreAt bs σ * R))))
    rw [List.length_append, show strs (rest ++ mk) = strs rest ++ strs mk by simp [strs]]
    exact h9
  clear h h1 h2 hst hrow hvw hc1 hc2 hc3 hc4 hs5 hgb h3 h3' hh hsh hm hv2 hv2' E
  generalize hx : σ.at_ k τ.stamp = x at *
  have hx1 : ((readV ((aget k σ.keys).getD []) τ.stamp).getD ⟨#[]⟩) = x.1 := by rw [← hx]; rfl
  have hx2 : (readV ((aget k σ.keys).getD []) τ.stamp).isSome = x.2 := by rw [← hx]; rfl
  rw [hx1, hx2] at HR
  clear hx hx1 hx2
  obtain ⟨x1, x2⟩ := x
  dsimp only at HR
  have hup' : (Instr.mapUpdate 66 (.map (some gb)) (.string k) (.agg #[.string x1, .bool x2])).run Tryz.prog w.drew = .ok () W2 := hup
  clear hup
  have hlen : (k :: rest).length = rest.length + 1 := by simp
  rw [hlen] at c10 c10' hsl
  have hsl1 : ∀ W : World, (Instr.slice 33 (.slice (some ⟨g, 0, none⟩) (rest.length + 1) cap) (some (.int .i64 1)) none none).run Tryz.prog W = .ok v2 W := hsl
  clear hsl
  go_enter Tryz.func26, Tryz.ntmps26
  go_wp2
  go_region_held3 (fun w' => w'.cell? ⟨tb, 0, none⟩ = some (.pointer (some ⟨bs, 0, none⟩)) ∧ w'.cell? ⟨tb, 9, none⟩ = some (.int .i64 τ.stamp)) (with_reducible first | exact q0)
    (first | (go_at_call 15; ((with_reducible refine HR.out.mono ?_); rintro e w' ⟨rfl, rfl⟩)))
  clear HR q0 hlen
  go_wp2_with (first
    | (go_at_call 30; (with_reducible refine HCl.out.mono ?_); rintro e w3 ⟨v3, rfl, hf3⟩
       have HMo2 := hid (HMo.out w3 v3 hf3)
       clear hf3)
    | (go_at_call 40; (with_reducible refine HMo2.out.mono ?_); rintro e w4 ⟨v4, rfl, v5, w5, td, gt, hrun, ⟨a5, n5, cap5, rfl⟩, c5, f5, hsat, _⟩
       have HSat := hid hsat
       clear hsat)
    | (at_builtin; refine wpList_append_run rfl rfl rfl rfl hrun ?_))
  go_end0
  exact ⟨rfl, HSat.out⟩

end Go.Proofs.YtnjgddckejpddaaGreatDoor
