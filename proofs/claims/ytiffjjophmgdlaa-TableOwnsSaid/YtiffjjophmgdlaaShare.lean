/-
  Layer 11: append to an own list beside another that may share its row; stores into own lists of rows; what a store into a row keeps.
-/
import Derived.Test.YtiffjjophmgdlaaLst
import Derived.Deep.DeepAppendRoom
import Derived.Laws.OwnMore
import Derived.Deep.AppendLies
namespace Go.Proofs.Ytiffjjophmgdlaa
open Go.RowKit Tb

variable {P : Program}
theorem run_append_far (w : World) (base : Nat) (t ty e : TypeId) (i : TypeInfo) (z : Value) (size bytes : Nat) (ht : P.underlying t = some (.slice e)) (hi : P.info? e = some i) (hz : i.zero = some z)
    (hsize : i.size = size) (hby : i.bytes = bytes) (hzs : z.cells.size = size) (hsz : 0 < size)
    (v : Value) (n : Nat) (xs : List Value) (hown : w.ownsRow base e size v n xs)
    (a : Addr) (m c : Nat) (news : List Value) (hl : news.length = m * size) (hnews : ∀ j u, news[j]? = some u → w.cell? (a.add j) = some u) (h1 : ∀ u ∈ news, u.oneCell' = true)
    (h63 : n + m ≤ maxLen) (hbytes : (n + m) * bytes ≤ 140737488355328) (hbase : base ≤ w.heap.size) :
    ∃ v' w', (Builtin.append_ #[t, t] ty #[v, .slice (some a) m c]).run P w = .ok v' w' ∧ w'.ownsRow base e size v' (n + m) (xs ++ news) ∧
      ((v'.ownBlock = v.ownBlock ∧ w.grownBy w' v.ownBlock) ∨ (v'.ownBlock = some w.heap.size ∧ w.grownBy w' none)) := by
  obtain ⟨v', w', hr, ho, hg, _, hat⟩ := run_append_own_at (P := P) w base t ty e i z size bytes ht hi hz hsize hby hzs hsz v n xs hown a m c news hl hnews h1 h63 hbytes hbase
  rcases hat with h | h
  · exact ⟨_, _, hr, ho, .inl ⟨h, hg⟩⟩
  · have hlt := World.ownsRow.lt hown
    rcases hown.2 with ⟨rfl, h0⟩ | ⟨g, cap, cur, rfl, hbg, hgg, hnc, hcm, hcs, htake⟩
    · exact ⟨_, _, hr, ho, .inr ⟨h, hg⟩⟩
    · by_cases hroom : n + m ≤ cap
      · obtain ⟨w2, hr2, _, _⟩ := run_append_own_spare (P := P) w base t ty e i size ht hi hsize g n cap xs hown a m c news hl hnews h1 hroom
        rw [hr] at hr2
        injection hr2 with e1 e2
        subst e1
        have hg2 := (hlt g rfl).2
        simp only [Value.ownBlock, Option.some.injEq] at h
        omega
      · subst hsize hby
        have hsm : n + m ≤ 9223372036854775807 := by simp only [maxLen] at h63; omega
        have hr2 := run_append_grow (P := P) w t ty e i z ht hi hz ⟨g, 0, none⟩ n cap xs hown.1 (hown.cells (g := g) rfl) a m c news hl hnews (by omega) (by omega) (growslice_fits (by omega) hbytes)
        rw [hr] at hr2
        injection hr2 with e1 e2
        subst e1 e2
        exact ⟨_, _, hr, ho, .inr ⟨rfl, ⟨rfl, rfl, rfl, by simp, fun k hk _ => Below.heap_alloc w.drew _ k hk⟩⟩⟩
variable {α : Type}
/-- A list that may share the row of an own list: if it does, it is its beginning. -/
def Elt.Sh (_E : Elt P α) (v : Value) (l : List α) (ad : Option Addr) (L : List α) : Prop :=
  ∀ b off, 0 < L.length → ad = some ⟨b, off, none⟩ → v.ownBlock = some b → off = 0 ∧ ∃ l', l = L ++ l'
theorem Elt.Sh.self {E : Elt P α} {w : World} {B n cap : Nat} {ad : Option Addr} {l : List α} (h : E.Own w B (.slice ad n cap) l) : E.Sh (.slice ad n cap) l ad l := fun b off hn e hv => by
  rcases h.form with ⟨h1, h0⟩ | ⟨g, cap', h1, _⟩
  · rw [h0] at hn; simp at hn
  · simp only [Value.slice.injEq] at h1
    rw [h1.1] at e
    simp only [Option.some.injEq, Addr.mk.injEq] at e
    exact ⟨e.2.1.symm, [], by simp⟩
/-- Append of elements that the statement lists, beside a list that may share the row. -/
theorem Elt.wpList_appS (E : Elt P α) {ops : Array Oper} {rest : List Oper} {o : Oper} {a : Act} {Q : Exit → Act → World → Prop} (hgd : o.guard = none) (s x : Operand)
    (ho : o.op = .call { callee := .builtin .append, args := #[s, x], argTypes := #[E.t, E.t] })
    (B : Nat) (v : Value) (l m : List α) (W : World) (cs : Array Value) (hs : a.eval s = v) (hown : E.Own W B v l) (g n : Nat) (hx : a.eval x = .slice (some ⟨g, 0, none⟩) n n) (hn : m.length = n) (hgW : g = W.heap.size)
    (hcs : cs.toList = m.flatMap E.cs) (hlen : l.length + m.length ≤ 274877906944) (hB : B ≤ W.heap.size) (ad : Option Addr) (L : List α) (hsl : E.Rd W W.heap.size ad L) (hsh : E.Sh v l ad L)
    (h : ∀ ad' n' c' w1, Hid (E.Apd W B v (l ++ m) (.slice ad' n' c') w1) → Hid (E.Rd w1 w1.heap.size ad L) → Hid (E.Sh (.slice ad' n' c') (l ++ m) ad L) → wpList P ops Q rest (a.put o.dst (.slice ad' n' c')) w1) : wpList P ops Q (o :: rest) a (W.alloc (.cells cs E.e)) := by
  subst hgW hn
  have hb : (l.length + m.length) * E.bytes ≤ 140737488355328 := by
    have h1 := Nat.mul_le_mul hlen E.small
    omega
  obtain ⟨v', w1, hr, h1, h2⟩ := run_append_far (P := P) (W.alloc (.cells cs E.e)) B E.t o.type E.e E.i E.z E.size E.bytes E.ht E.hi E.hz E.hsize E.hby E.hzs E.pos v l.length (l.flatMap E.cs) (hown.alloc _) ⟨W.heap.size, 0, none⟩ m.length m.length (m.flatMap E.cs) (E.flat_len m)
    (fun j u hj => by have := cells_new W (m.flatMap E.cs) E.e j u hj; rw [← hcs] at this; simpa using this) (E.flat_one m) (by unfold maxLen; omega) hb (by simp; omega)
  have hown' : E.Own w1 B v' (l ++ m) := by
    unfold Elt.Own
    rw [List.length_append, List.flatMap_append]
    exact h1
  obtain ⟨ad', n', c', rfl⟩ : ∃ ad' n' c', v' = .slice ad' n' c' := by
    rcases hown'.form with ⟨h, _⟩ | ⟨g, cap, h, _⟩
    · exact ⟨_, _, _, h⟩
    · exact ⟨_, _, _, h⟩
  have hall : ∀ k, k < W.heap.size → (W.alloc (.cells cs E.e)).heap[k]? = W.heap[k]? := fun k hk => Below.heap_alloc W _ k hk
  have hadlt : ∀ b off, 0 < L.length → ad = some ⟨b, off, none⟩ → b < W.heap.size := fun b off h0 e => by
    obtain ⟨b', off', e', hb', _⟩ := hsl h0
    rw [e] at e'
    simp only [Option.some.injEq, Addr.mk.injEq] at e'
    omega
  have hupd : Upd (fun k => v.ownBlock = some k) W w1 := by
    rcases h2 with ⟨_, hg⟩ | ⟨_, hg⟩
    · exact ((Upd.refl _ W).alloc _).grown hg fun k hk _ => hk
    · exact ((Upd.refl _ W).alloc _).grown hg fun k hk _ => by cases hk
  have hsz : W.heap.size ≤ w1.heap.size := hupd.size
  have hap : E.Apd W B v (l ++ m) (.slice ad' n' c') w1 := ⟨hown', hupd, fun k hk => by
    rcases h2 with ⟨hbk, _⟩ | ⟨hbk, _⟩
    · exact .inl (hbk ▸ hk)
    · rw [hbk] at hk; simp at hk; exact .inr (by omega)⟩
  have hrd : E.Rd w1 w1.heap.size ad L ∧ E.Sh (.slice ad' n' c') (l ++ m) ad L := by
    rcases h2 with ⟨hbk, hg⟩ | ⟨hbk, hg⟩
    · refine ⟨?_, fun b off h0 e hv => ?_⟩
      · by_cases h0 : 0 < L.length
        · obtain ⟨b, off, e, hbl, hc⟩ := hsl h0
          by_cases hvb : v.ownBlock = some b
          · obtain ⟨rfl, l', rfl⟩ := hsh b off h0 e hvb
            have hg' : ad' = some ⟨b, 0, none⟩ := by
              rw [hvb] at hbk
              rcases hown'.form with ⟨h, h0'⟩ | ⟨g, cap, h, _⟩
              · rw [h] at hbk; simp [Value.ownBlock] at hbk
              · simp only [Value.slice.injEq] at h
                rw [h.1] at hbk ⊢
                simp only [Value.ownBlock, Option.some.injEq] at hbk
                rw [hbk]
            rw [e, ← hg']
            have := hown'.rd.take L.length
            rw [List.append_assoc, List.take_left] at this
            exact this
          · refine (hsl.same fun b' off' e' hb' => ?_).mono hsz
            rw [e] at e'
            simp only [Option.some.injEq, Addr.mk.injEq] at e'
            obtain ⟨rfl, _⟩ := e'
            exact hupd.block b hb' hvb
        · exact fun h => absurd h h0
      · rw [hbk] at hv
        obtain ⟨h3, l', h4⟩ := hsh b off h0 e hv
        exact ⟨h3, l' ++ m, by rw [h4, List.append_assoc]⟩
    · refine ⟨(hsl.same fun b' off' e' hb' => ?_).mono hsz, fun b off h0 e hv => ?_⟩
      · rw [hg.block b' (by simp; omega) (by simp)]
        exact hall b' hb'
      · have h3 := hadlt b off h0 e
        rw [hbk] at hv
        simp at hv
        omega
  refine wpList_plain hgd fun K hK => ?_
  unfold Oper.wp execOp
  simp only [ho, resolve, invoke, builtin, Sem.run_bind, Sem.run_pure, Result.andThen_ok, List.map_toArray, List.map_cons, List.map_nil, hs, hx, hr]
  exact hK _ _ (h ad' n' c' w1 hap hrd.1 hrd.2)
theorem own_zero {E : Elt P α} {w : World} {B b o n cap : Nat} {l : List α} (h : E.Own w B (.slice (some ⟨b, o, none⟩) n cap) l) : o = 0 := by
  rcases h.form with ⟨h1, _⟩ | ⟨g, cp, h1, _⟩
  · simp at h1
  · simp only [Value.slice.injEq, Option.some.injEq, Addr.mk.injEq] at h1
    exact h1.1.2.1
theorem own_free {E : Elt P α} {w : World} {B b o n cap : Nat} {l : List α} (h : E.Own w B (.slice (some ⟨b, o, none⟩) n cap) l) : ∀ j, w.frozen? ⟨b, j, none⟩ = false := fun j => by
  obtain ⟨cur, hc⟩ := h.blk (g := b) rfl
  exact hc.free j
theorem stored_at {E : Elt P α} {w : World} {B b o n cap : Nat} {l : List α} (h : E.Own w B (.slice (some ⟨b, o, none⟩) n cap) l) (i : Nat) (hi : i < l.length) (x : α) : E.Own (w.setCells b (o + i * E.size) (E.cs x)) B (.slice (some ⟨b, o, none⟩) n cap) (l.set i x) := by
  obtain rfl := own_zero h
  rw [Nat.zero_add]
  exact h.stored i hi x
theorem upd_setCells (w : World) (g o : Nat) (vs : List Value) : Upd (fun k => k = g) w (w.setCells g o vs) := Upd.setCells (S := fun k => k = g) g (fun _ => rfl) vs o w (Upd.refl _ _)
/-- A table is kept by what changes a row of another kind. -/
theorem At_upds {w w' : World} {S : Nat → Prop} (hu : Upd S w w') (hS : ∀ k, S k → ∃ cs, Blk w k 25 cs) : ∀ {t : Tr} {p : Option Addr}, At w t p → At w' t p
  | .nil, _, h => h
  | .node _ _ _ _, _, ⟨g, pl, pr, e, h1, h2, h3⟩ => ⟨g, pl, pr, e, hu.blk h1 (fun e => by obtain ⟨cs, hb⟩ := hS _ e; exact absurd (h1.type_eq hb).1 (by decide)), At_upds hu hS h2, At_upds hu hS h3⟩
theorem TblAt.upds {w w' : World} {b : Nat} {t : Tr} {S : Nat → Prop} (h : TblAt w b t) (hu : Upd S w w') (hS : ∀ k, S k → ∃ cs, Blk w k 25 cs) : TblAt w' b t := by
  obtain ⟨p, h1, h2⟩ := h.at_
  exact ⟨⟨p, hu.blk h1 (fun e => by obtain ⟨cs, hb⟩ := hS _ e; exact absurd (h1.type_eq hb).1 (by decide)), At_upds hu hS h2⟩, h.sorted⟩
end Go.Proofs.Ytiffjjophmgdlaa
