/-
  The store in memory; what its functions that only read tell.
-/
import Derived.Test.YtnjgddckejpddaaGreatDoorProg
import Derived.Test.YtnjgddckejpddaaGreatDoorMap
import Derived.WalkSpells
import Derived.WalkLawsBesides
import Derived.KernelRfl
import Derived.Deep.QuietTactic
import Derived.BigQuiet
namespace Go.Proofs.YtnjgddckejpddaaGreatDoor
open Go.RowKit Go.Proofs.YtnjgddckejpddaaGreatDoor.Sep

theorem ret_int {k : IntKind} {a b : Int} (h : a = b) : Ending.returned (.int k a) = .returned (.int k b) := by rw [h]

/-- A version: a value from a stamp on, or gone. -/
structure Ver where
  val : ByteArray
  gone : Bool
  stamp : Nat
deriving Inhabited

def Ver.cells (key : ByteArray) (v : Ver) : List Value := [.string key, .string v.val, .bool v.gone, .int .i64 v.stamp]

/-- What a store is. -/
structure StoreS where
  limit : Int
  now : Nat
  pins : List (Int × Int)
  keys : List (ByteArray × List Ver)

abbrev RowsT := List (ByteArray × (Value × List Ver))

def rowHp (p : ByteArray × (Value × List Ver)) : Hp := Row 75 4 p.2.1 p.2.2.length (cellsOf (Ver.cells p.1) p.2.2)

/-- The store's memory, its parts laid open. -/
def StoreO (bs : Nat) (limit : Int) (now : Nat) (bp : Nat) (pes : Array MapEntry) (pc : Nat) (bk : Nat) (kes : Array MapEntry) (kc : Nat) (rows : RowsT) : Hp :=
  pts bs (.cells #[.map (some bp), .int .i64 limit, .int .i64 now, .map (some bk)] 62 (0, 0)) * (pts bp (.map pes pc) * (pts bk (.map kes kc) * bigstar rowHp rows))

/-- The store's memory. -/
def StoreAt (bs : Nat) (σ : StoreS) : Hp := fun h => ∃ bp pes pc bk kes kc rows,
  Holds (.int .i64) pes pc (amap (fun n => .int .i64 n) σ.pins) ∧ Holds .string kes kc (amap (fun r : Value × List Ver => r.1) rows) ∧ σ.keys = amap (fun r : Value × List Ver => r.2) rows ∧
  StoreO bs σ.limit σ.now bp pes pc bk kes kc rows h

theorem StoreAt.open_ {s : Out} {w : World} {bs : Nat} {σ : StoreS} {R : Hp} (h : Sat s w (StoreAt bs σ * R)) : ∃ bp pes pc bk kes kc rows,
    Holds (.int .i64) pes pc (amap (fun n => .int .i64 n) σ.pins) ∧ Holds .string kes kc (amap (fun r : Value × List Ver => r.1) rows) ∧ σ.keys = amap (fun r : Value × List Ver => r.2) rows ∧
    Sat s w (StoreO bs σ.limit σ.now bp pes pc bk kes kc rows * R) := by
  obtain ⟨ho, x, ⟨a, b, ⟨bp, pes, pc, bk, kes, kc, rows, h1, h2, h3, h4⟩, hb, hd, rfl⟩, hh⟩ := h
  exact ⟨bp, pes, pc, bk, kes, kc, rows, h1, h2, h3, ho, _, ⟨a, b, h4, hb, hd, rfl⟩, hh⟩

theorem StoreAt.shut {s : Out} {w : World} {bs : Nat} {σ : StoreS} {R : Hp} {bp : Nat} {pes : Array MapEntry} {pc bk : Nat} {kes : Array MapEntry} {kc : Nat} {rows : RowsT}
    (h : Sat s w (StoreO bs σ.limit σ.now bp pes pc bk kes kc rows * R))
    (h1 : Holds (.int .i64) pes pc (amap (fun n => .int .i64 n) σ.pins)) (h2 : Holds .string kes kc (amap (fun r : Value × List Ver => r.1) rows)) (h3 : σ.keys = amap (fun r : Value × List Ver => r.2) rows) : Sat s w (StoreAt bs σ * R) := by
  obtain ⟨ho, x, ⟨a, b, h4, hb, hd, rfl⟩, hh⟩ := h
  exact ⟨ho, _, ⟨a, b, ⟨bp, pes, pc, bk, kes, kc, rows, h1, h2, h3, h4⟩, hb, hd, rfl⟩, hh⟩

namespace P
noncomputable abbrev skeys : KeyKind Tryz.prog 9 ByteArray := strKeys Tryz.prog 9 Tryz.underlying9
noncomputable abbrev ikeys : KeyKind Tryz.prog 3 Int := intKeys Tryz.prog 3 Tryz.underlying3
theorem iVers : (Tryz.prog.info? 76).map (fun i => i.zero) = some (some (.slice none 0 0)) := by kernel_rfl
theorem iInt : (Tryz.prog.info? 3).map (fun i => i.zero) = some (some (.int .i64 0)) := by kernel_rfl
end P

theorem zero_of {P : Program} {t : TypeId} {z : Value} (h : (P.info? t).map (fun i => i.zero) = some (some z)) : ∃ i, P.info? t = some i ∧ i.zero = some z := by
  cases hi : P.info? t with
  | none => rw [hi] at h; cases h
  | some i => rw [hi] at h; exact ⟨i, rfl, by simpa using h⟩

/-- What the versions of a key are in memory: what a walk asks. -/
def VersAt (w : World) (v : Value) (l : List Ver) : Prop :=
  ((∃ a, v = .slice a 0 0) ∧ l = []) ∨ ∃ g cap, v = .slice (some ⟨g, 0, none⟩) l.length cap ∧ l.length ≤ cap ∧ cap ≤ maxLen ∧
    ∀ i x, l[i]? = some x → w.cell? ⟨g, i * 4 + 1, none⟩ = some (.string x.val) ∧ w.cell? ⟨g, i * 4 + 2, none⟩ = some (.bool x.gone) ∧ w.cell? ⟨g, i * 4 + 3, none⟩ = some (.int .i64 x.stamp)

theorem versAt_row {s : Out} {w : World} {v : Value} {k : ByteArray} {l : List Ver} {R : Hp} (h : Sat s w (rowHp (k, (v, l)) * R)) : VersAt w v l := by
  have he : ∀ x : Ver, (Ver.cells k x).length = 4 := fun _ => rfl
  replace h : Sat s w (Row 75 4 v l.length (cellsOf (Ver.cells k) l) * R) := h
  obtain ⟨hl, ⟨ha, hn, _⟩ | ⟨g, cap, cur, rfl, h1, h2, h3, h4, hs⟩⟩ := Row.open_ h
  · exact .inl ⟨ha, by simpa using hn⟩
  · refine .inr ⟨g, cap, rfl, h1, h2, fun i x hx => ?_⟩
    have hi : i < l.length := by
      rcases Nat.lt_or_ge i l.length with h | h
      · exact h
      · simp [List.getElem?_eq_none h] at hx
    have hg : ∀ j u, j < 4 → (Ver.cells k x)[j]? = some u → w.cell? ⟨g, i * 4 + j, none⟩ = some u := by
      intro j u hj hu
      refine hs.cell ?_
      have h5 := cellsOf_get he l i j hj
      rw [hx] at h5
      simp only [Option.bind_some, hu] at h5
      have h4' : cur.toList.take (l.length * 4) = cellsOf (Ver.cells k) l := h4
      rw [← h4', List.getElem?_take] at h5
      split at h5
      · simpa using h5
      · cases h5
    exact ⟨hg 1 _ (by omega) rfl, hg 2 _ (by omega) rfl, hg 3 _ (by omega) rfl⟩

/-- What a look-up of a key's versions gives. -/
theorem StoreO.look {s : Out} {w : World} {bs : Nat} {limit : Int} {now bp : Nat} {pes : Array MapEntry} {pc bk : Nat} {kes : Array MapEntry} {kc : Nat} {rows : RowsT} {R : Hp}
    (h : Sat s w (StoreO bs limit now bp pes pc bk kes kc rows * R)) (h2 : Holds .string kes kc (amap (fun r : Value × List Ver => r.1) rows)) (key : ByteArray) :
    ∃ v, (Instr.lookup 60 (.map (some bk)) (.string key) false).run Tryz.prog w = .ok v w ∧ VersAt w v ((aget key (amap (fun r : Value × List Ver => r.2) rows)).getD []) := by
  obtain ⟨i, hi, hz⟩ := zero_of P.iVers
  have hb : Sat s w (pts bk (.map kes kc) * (pts bs (.cells #[.map (some bp), .int .i64 limit, .int .i64 now, .map (some bk)] 62 (0, 0)) * (pts bp (.map pes pc) * bigstar rowHp rows * R))) := by
    have h' := h
    unfold StoreO at h'
    have e : pts bs (.cells #[.map (some bp), .int .i64 limit, .int .i64 now, .map (some bk)] 62 (0, 0)) * (pts bp (.map pes pc) * (pts bk (.map kes kc) * bigstar rowHp rows)) * R =
        pts bk (.map kes kc) * (pts bs (.cells #[.map (some bp), .int .i64 limit, .int .i64 now, .map (some bk)] 62 (0, 0)) * (pts bp (.map pes pc) * bigstar rowHp rows * R)) := by ac_rfl
    rwa [e] at h'
  have hl := lookup_run P.skeys (mt := 60) Tryz.underlying60 hi hz hb.get h2 key
  refine ⟨_, hl, ?_⟩
  rw [aget_amap, aget_amap]
  cases hx : aget key rows with
  | none => exact .inl ⟨⟨none, rfl⟩, rfl⟩
  | some p =>
    obtain ⟨v, l⟩ := p
    simp only [Option.map_some, Option.getD_some]
    refine versAt_row (s := s) (k := key) (R := bigstar rowHp (adel key rows) * (pts bk (.map kes kc) * (pts bs (.cells #[.map (some bp), .int .i64 limit, .int .i64 now, .map (some bk)] 62 (0, 0)) * (pts bp (.map pes pc) * R)))) ?_
    have hbs := bigstar_get rowHp key (v, l) rows hx
    rw [hbs] at hb
    have e : pts bk (.map kes kc) * (pts bs (.cells #[.map (some bp), .int .i64 limit, .int .i64 now, .map (some bk)] 62 (0, 0)) * (pts bp (.map pes pc) * (rowHp (key, (v, l)) * bigstar rowHp (adel key rows)) * R)) =
       rowHp (key, (v, l)) * (bigstar rowHp (adel key rows) * (pts bk (.map kes kc) * (pts bs (.cells #[.map (some bp), .int .i64 limit, .int .i64 now, .map (some bk)] 62 (0, 0)) * (pts bp (.map pes pc) * R)))) := by ac_rfl
    rwa [e] at hb

end Go.Proofs.YtnjgddckejpddaaGreatDoor
