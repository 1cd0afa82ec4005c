/-
  Sentinel errors in memory: what a row's list of laid sentinels gives (their cells, their blocks, that no two are one), for whatever program; and that it stays while nothing below a bound is written. No statement of the seat is proved here.
-/
import Derived.LaidEql
import Derived.LaidLaws
import Derived.Below
import Derived.MakeChecks
namespace Go.Proofs.Ytlnhpeghgabnkaa
open Go.RowKit Go.ChangeShapes

/-- The program's facts about errors.New's type. -/
structure ErrFacts (P : Program) (nm : String) (ti tp te ts : TypeId) (ms : Array (String × TypeId)) (f : Field) : Prop where
  hi : P.underlying ti = some (.interface ms)
  hrow : ∀ u, P.typeName? 3 u = some nm → u = tp
  hp : P.underlying tp = some (.pointer te)
  he : P.underlying te = some (.struct #[f])
  hft : f.type = ts
  hfo : f.offset = 0
  hs : P.underlying ts = some .string
  hc : P.cellsOf te = 1
  hcs : P.cellsOf ts = 1

/-- A listed sentinel's datum. -/
def sentD (nm : String) (x : String × List UInt8) : String × DataW Unit := (x.1, .iface nm (.ptr (.agg [.lit (.string x.2)])))

/-- One sentinel in memory: the variable's block g, the address a it points to. -/
structure SentAt (tp : TypeId) (B : Nat) (w : World) (g : Nat) (a : Addr) (text : List UInt8) : Prop where
  gB : g < B
  aB : a.block < B
  var : w.cell? ⟨g, 0, none⟩ = some (.iface tp (.pointer (some a)))
  row : ∃ c t, w.heap[a.block]? = some (.cells c t (0, 0))
  str : ∃ s : ByteArray, w.cell? a = some (.string s) ∧ s.data.toList = text ∧ s.size ≤ maxLen

theorem lt_of_some {w : World} {b : Nat} {o : Obj} (h : w.heap[b]? = some o) : b < w.heap.size := by
  rcases Nat.lt_or_ge b w.heap.size with h' | h'
  · exact h'
  · simp [Array.getElem?_eq_none h'] at h
theorem lt_of_cell {w : World} {a : Addr} {v : Value} (h : w.cell? a = some v) : a.block < w.heap.size := by
  unfold World.cell? at h
  split at h
  · rename_i hh; exact lt_of_some hh
  · cases h

theorem SentAt.keep {tp B : Nat} {w w' : World} {g : Nat} {a : Addr} {text : List UInt8} (h : SentAt tp B w g a text) (hk : ∀ b, b < B → w'.heap[b]? = w.heap[b]?) : SentAt tp B w' g a text := by
  obtain ⟨gB, aB, hv, ⟨c, t, hr⟩, ⟨s, hs, ht⟩⟩ := h
  exact ⟨gB, aB, by rw [World.cell?_of_block (w := w) (hk _ gB)]; exact hv, ⟨c, t, by rw [hk _ aB]; exact hr⟩, ⟨s, by rw [World.cell?_of_block (w := w) (hk _ aB)]; exact hs, ht⟩⟩

/-- The sentinels of a list: one address each, no two the same. -/
structure Sents (tp B : Nat) (w : World) (gs : List Nat) (texts : List (List UInt8)) (as : List Addr) : Prop where
  len : as.length = gs.length
  nodup : as.Nodup
  at_ : ∀ (i g : Nat) (a : Addr), gs[i]? = some g → as[i]? = some a → ∃ text, texts[i]? = some text ∧ SentAt tp B w g a text

theorem Sents.keep {tp B : Nat} {w w' : World} {gs : List Nat} {texts : List (List UInt8)} {as : List Addr} (h : Sents tp B w gs texts as) (hk : ∀ b, b < B → w'.heap[b]? = w.heap[b]?) : Sents tp B w' gs texts as :=
  ⟨h.len, h.nodup, fun i g a hg ha => by
    obtain ⟨t, ht, hs⟩ := h.at_ i g a hg ha
    exact ⟨t, ht, hs.keep hk⟩⟩
theorem Sents.below {tp B B' : Nat} {w w' : World} {gs : List Nat} {texts : List (List UInt8)} {as : List Addr} (h : Sents tp B w gs texts as) (hb : Below B' w w') (hB : B ≤ B') : Sents tp B w' gs texts as :=
  h.keep fun b hlt => hb.block b (Nat.lt_of_lt_of_le hlt hB)

theorem sents_of_vars {P : Program} {nm : String} {ti tp te ts : TypeId} {ms : Array (String × TypeId)} {f : Field} (F : ErrFacts P nm ti tp te ts ms f) {W : World} :
    ∀ (l : List (String × List UInt8)) (gs : List Nat) (ps : List MemPlace), DataW.LaidVars P W (l.map (sentD nm)) ps →
      (∀ b off, MemPlace.cell b off ∈ ps → (∃ c t, W.heap[b]? = some (.cells c t (0, 0))) ∧ ∀ u v, W.cell? ⟨b, off, none⟩ = some (.iface u v) → Value.okWide P W .any 0 u v) →
      l.map (fun x => P.globalNamed x.1) = gs.map some → (∀ g ∈ gs, (P.globals[g]?).map (·.type) = some ti) →
      ∃ as : List Addr, as.length = gs.length ∧ (as.map fun a => MemPlace.cell a.block a.off).Sublist ps ∧ (∀ a ∈ as, a.spot = none) ∧
        ∀ (i g : Nat) (a : Addr), gs[i]? = some g → as[i]? = some a → ∃ text, (l.map (·.2))[i]? = some text ∧ SentAt tp W.heap.size W g a text
  | [], gs, ps, _, _, hg, _ => by
    obtain rfl : gs = [] := by cases gs <;> simp_all
    exact ⟨[], rfl, by simp, by simp, by simp⟩
  | (n, text) :: l, gs, ps, hv, hr, hg, ht => by
    obtain _ | ⟨g, gs⟩ := gs
    · simp at hg
    simp only [List.map_cons, List.cons.injEq] at hg
    obtain ⟨hg0, hg⟩ := hg
    obtain ⟨g', t, cs, fuel, p, q, hg1, ht1, hv1, hd1, hq, e⟩ := hv
    obtain rfl := Option.some.inj (hg0.symm.trans hg1)
    obtain rfl := Option.some.inj ((ht g (by simp)).symm.trans ht1)
    subst e
    obtain ⟨l0⟩ := cs
    have ok0 : ∀ u v, l0 = [.iface u v] → Value.okWide P W .any 0 u v := fun u v e => by
      subst e
      exact (hr g 0 (by simp [MemPlace.row])).2 u v (by simpa using World.var?_cell hg1 hv1 0)
    obtain ⟨a0, s0, rfl, hc0, hs0, hz0, rfl⟩ := errorString_of_trod F.hi F.hrow F.hp F.he F.hft F.hfo F.hs F.hc F.hcs hd1 ok0
    obtain ⟨as, hl, hsub, hsp, hat⟩ := sents_of_vars F l gs q hq (fun b off hm => hr b off (List.mem_append_right _ hm)) hg (fun g hm => ht g (by simp [hm]))
    have hcell : W.cell? ⟨g, 0, none⟩ = some (.iface tp (.pointer (some a0))) := by simpa using World.var?_cell hg1 hv1 0
    refine ⟨a0 :: as, by simp [hl], ?_, ?_, ?_⟩
    · simp only [List.map_cons]
      rw [List.append_assoc]
      refine List.Sublist.trans ?_ (List.sublist_append_right _ _)
      have : MemPlace.row a0 1 = [MemPlace.cell a0.block a0.off] := by simp [MemPlace.row]
      rw [this]
      exact hsub.cons_cons _
    · intro a ha
      rcases List.mem_cons.1 ha with rfl | ha
      · cases hsp0 : a.spot with
        | none => rfl
        | some k =>
          unfold World.cell? at hc0
          split at hc0
          · simp [hsp0] at hc0
          · cases hc0
      · exact hsp a ha
    · intro i g' a hgi hai
      cases i with
      | zero =>
        simp only [List.getElem?_cons_zero, Option.some.injEq] at hgi hai
        subst hgi hai
        exact ⟨text, rfl, lt_of_cell hcell, lt_of_cell hc0, hcell, (hr a0.block a0.off (by simp [MemPlace.row])).1, s0, hc0, hs0, hz0⟩
      | succ i => exact hat i g' a (by simpa using hgi) (by simpa using hai)

/-- WHAT A ROW's LIST GIVES. -/
theorem sents_of_laid {P : Program} {nm : String} {ti tp te ts : TypeId} {ms : Array (String × TypeId)} {f : Field} (F : ErrFacts P nm ti tp te ts ms f) {W : World} (l : List (String × List UInt8)) (gs : List Nat)
    (h : laidMet P (l.map (sentD nm)) W) (hg : l.map (fun x => P.globalNamed x.1) = gs.map some) (ht : ∀ g ∈ gs, (P.globals[g]?).map (·.type) = some ti) :
    ∃ as : List Addr, Sents tp W.heap.size W gs (l.map (·.2)) as := by
  obtain ⟨ps, hv, hnd, hrows⟩ := h
  obtain ⟨as, hl, hsub, hsp, hat⟩ := sents_of_vars F l gs ps hv hrows hg ht
  refine ⟨as, hl, ?_, hat⟩
  have h1 : (as.map fun a => MemPlace.cell a.block a.off).Nodup := List.Nodup.sublist hsub hnd
  rw [List.nodup_iff_pairwise_ne] at h1 ⊢
  rw [List.pairwise_map] at h1
  exact h1.imp fun hne e => hne (by rw [e])
end Go.Proofs.Ytlnhpeghgabnkaa
