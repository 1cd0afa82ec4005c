/-
  What KeysMemory needs of memory: appends to the call's own lists of parts, with another list that shares the row; stores into own lists.
-/
import Derived.Test.YtfgkgehlokabgaaDoorBackLaw
import Derived.Maps.AppendAt
import Derived.Deep.DeepAppendRoom
import Derived.Laws.OwnMore
import Derived.Deep.AppendLies
import Derived.Laws.AppendOwnNone
namespace Go.Proofs.YtfgkgehlokabgaaDoor
open Go.RowKit

theorem run_append_far (w : World) (base : Nat) (t ty e : TypeId) (i : TypeInfo) (z : Value) (size bytes : Nat) (ht : Tryd.prog.underlying t = some (.slice e)) (hi : Tryd.prog.info? e = some i) (hz : i.zero = some z)
    (hsize : i.size = size) (hby : i.bytes = bytes) (hzs : z.cells.size = size) (hsz : 0 < size)
    (v : Value) (n : Nat) (xs : List Value) (hown : w.ownsRow base e size v n xs)
    (a : Addr) (m c : Nat) (news : List Value) (hl : news.length = m * size) (hnews : ∀ j u, news[j]? = some u → w.cell? (a.add j) = some u) (h1 : ∀ u ∈ news, u.oneCell' = true)
    (h63 : n + m ≤ maxLen) (hbytes : (n + m) * bytes ≤ 140737488355328) (hbase : base ≤ w.heap.size) :
    ∃ v' w', (Builtin.append_ #[t, t] ty #[v, .slice (some a) m c]).run Tryd.prog w = .ok v' w' ∧ w'.ownsRow base e size v' (n + m) (xs ++ news) ∧
      ((v'.ownBlock = v.ownBlock ∧ w.grownBy w' v.ownBlock) ∨ (v'.ownBlock = some w.heap.size ∧ w.grownBy w' none)) := by
  obtain ⟨v', w', hr, ho, hg, _, hat⟩ := run_append_own_at (P := Tryd.prog) w base t ty e i z size bytes ht hi hz hsize hby hzs hsz v n xs hown a m c news hl hnews h1 h63 hbytes hbase
  rcases hat with h | h
  · exact ⟨_, _, hr, ho, .inl ⟨h, hg⟩⟩
  · have hlt := World.ownsRow.lt hown
    rcases hown.2 with ⟨rfl, h0⟩ | ⟨g, cap, cur, rfl, hbg, hgg, hnc, hcm, hcs, htake⟩
    · exact ⟨_, _, hr, ho, .inr ⟨h, hg⟩⟩
    · by_cases hroom : n + m ≤ cap
      · obtain ⟨w2, hr2, _, _⟩ := run_append_own_spare (P := Tryd.prog) w base t ty e i size ht hi hsize g n cap xs hown a m c news hl hnews h1 hroom
        rw [hr] at hr2
        injection hr2 with e1 e2
        subst e1
        have hg2 := (hlt g rfl).2
        simp only [Value.ownBlock, Option.some.injEq] at h
        omega
      · subst hsize hby
        have hsm : n + m ≤ 9223372036854775807 := by simp only [maxLen] at h63; omega
        have hr2 := run_append_grow (P := Tryd.prog) w t ty e i z ht hi hz ⟨g, 0, none⟩ n cap xs hown.1 (hown.cells (g := g) rfl) a m c news hl hnews (by omega) (by omega) (growslice_fits (by omega) hbytes)
        rw [hr] at hr2
        injection hr2 with e1 e2
        subst e1 e2
        exact ⟨_, _, hr, ho, .inr ⟨rfl, ⟨rfl, rfl, rfl, by simp, fun k hk _ => Below.heap_alloc w.drew _ k hk⟩⟩⟩
/-- Another list that may share the row of an own list: if it does, it is its beginning. -/
def Shares (v : Value) (l : List Ky.Part) (ad : Option Addr) (n : Nat) (L : Nat → PV) : Prop :=
  ∀ g b off, 0 < n → v.ownBlock = some g → ad = some ⟨b, off, none⟩ → b = g → off = 0 ∧ n ≤ l.length ∧ ∀ i, i < n → lof l i = L i
/-- An own list's parts, as a list that came in. -/
theorem OwnP.sliceIs {w : World} {B g n cap : Nat} {l : List Ky.Part} (h : OwnP w B (.slice (some ⟨g, 0, none⟩) n cap) l) (m : Nat) (hm : m ≤ l.length) : SliceIs w w.heap.size (some ⟨g, 0, none⟩) m (lof l) := by
  intro _
  have hlt := (World.ownsRow.lt h g rfl).2
  refine ⟨g, 0, rfl, hlt, fun i hi => ?_⟩
  have hc : ∀ j, j < 3 → w.cell? ⟨g, 0 + i * 3 + j, none⟩ = (l.flatMap cellsP)[i * 3 + j]? := fun j hj => by
    have hn : l.length = n := by
      rcases h.2 with ⟨h0, _⟩ | ⟨g', cap', cur, h', _⟩
      · simp at h0
      · simp only [Value.slice.injEq] at h'; exact h'.2.1.symm
    subst hn
    rw [Nat.zero_add, World.ownsRow.cellAt h (i * 3 + j) (by omega)]
  have hf : ∀ j, j < 3 → (l.flatMap cellsP)[i * 3 + j]? = (cellsP l[i])[j]? := fun j hj => flat3 l i j (by omega) hj
  have e : lof l i = ⟨l[i].num, l[i].n, ⟨l[i].s.toArray⟩⟩ := by unfold lof; rw [List.getElem?_eq_getElem (by omega)]
  rw [e]
  exact ⟨(hc 0 (by omega)).trans (hf 0 (by omega)), (hc 1 (by omega)).trans (hf 1 (by omega)), (hc 2 (by omega)).trans (hf 2 (by omega))⟩
theorem SliceIs.kept {w w1 : World} {ad : Option Addr} {n : Nat} {L : Nat → PV} (h : SliceIs w w.heap.size ad n L) (hs : w.heap.size ≤ w1.heap.size) (hk : ∀ b off, 0 < n → ad = some ⟨b, off, none⟩ → b < w.heap.size → w1.heap[b]? = w.heap[b]?) : SliceIs w1 w1.heap.size ad n L := fun h0 => by
  obtain ⟨b, off, e, hb, hc⟩ := h h0
  have hk' := hk b off h0 e hb
  have hcell : ∀ o, w1.cell? ⟨b, o, none⟩ = w.cell? ⟨b, o, none⟩ := fun o => World.cell?_of_block (a := ⟨b, o, none⟩) hk'
  exact ⟨b, off, e, Nat.lt_of_lt_of_le hb hs, fun i hi => by rw [hcell, hcell, hcell]; exact hc i hi⟩
theorem SliceIs.congr {w : World} {B : Nat} {ad : Option Addr} {n : Nat} {L M : Nat → PV} (h : SliceIs w B ad n L) (he : ∀ i, i < n → L i = M i) : SliceIs w B ad n M := fun h0 => by
  obtain ⟨b, off, e, hb, hc⟩ := h h0
  exact ⟨b, off, e, hb, fun i hi => by rw [← he i hi]; exact hc i hi⟩
/-- Append of one part, beside a list that may share the row. -/
theorem wpList_appP_sh {ops : Array Oper} {rest : List Oper} {o : Oper} {a : Act} {Q : Exit → Act → World → Prop} (hgd : o.guard = none) (s x : Operand)
    (ho : o.op = .call { callee := .builtin .append, args := #[s, x], argTypes := #[22, 22] })
    (B : Nat) (v : Value) (l : List Ky.Part) (p : Ky.Part) (W : World) (cs : Array Value) (hs : a.eval s = v) (hown : OwnP W B v l) (g : Nat) (hx : a.eval x = .slice (some ⟨g, 0, none⟩) 1 1) (hgW : g = W.heap.size)
    (hcs : cs = (cellsP p).toArray) (hlen : l.length + 1 ≤ 1099511627776) (hB : B ≤ W.heap.size) (ad : Option Addr) (n : Nat) (L : Nat → PV) (hsl : SliceIs W W.heap.size ad n L) (hsh : Shares v l ad n L)
    (h : ∀ v' w1, Hid (OwnP w1 B v' (l ++ [p])) → Hid (∀ w, Below B w W → Below B w w1) → Hid (SliceIs w1 w1.heap.size ad n L) → Hid (Shares v' (l ++ [p]) ad n L) → Hid (W.heap.size ≤ w1.heap.size ∧ ∀ b, b < W.heap.size → v.ownBlock ≠ some b → w1.heap[b]? = W.heap[b]?) → Hid (∀ k, v'.ownBlock = some k → v.ownBlock = some k ∨ W.heap.size ≤ k) → wpList Tryd.prog ops Q rest (a.put o.dst v') w1) : wpList Tryd.prog ops Q (o :: rest) a (W.alloc (.cells cs 39)) := by
  obtain ⟨i0, hi, hz0, hz1, hz2⟩ := info_parts part_info
  subst hcs hgW
  obtain ⟨v', w1, hr, h1, h2⟩ := run_append_far (W.alloc (.cells (cellsP p).toArray 39)) B 22 o.type 39 i0 (.agg #[.bool false, .int .i64 0, .string ⟨#[]⟩]) 3 32 Tryd.underlying22 hi hz0 hz1 hz2 rfl (by decide) v l.length (l.flatMap cellsP) (World.ownsRow.alloc hown _) ⟨W.heap.size, 0, none⟩ 1 1 (cellsP p) rfl
    (cells_new W _ _) (fun u hu => by simp only [cellsP, List.mem_cons, List.not_mem_nil, or_false] at hu; rcases hu with rfl | rfl | rfl <;> rfl) (by unfold maxLen; omega) (by omega) (by simp; omega)
  have hown1 : OwnP w1 B v' (l ++ [p]) := by
    unfold OwnP
    rw [List.length_append, List.flatMap_append]
    simpa using h1
  have hblk : ∀ b, b < W.heap.size → (W.alloc (.cells (cellsP p).toArray 39)).heap[b]? = W.heap[b]? := fun b hb => Below.heap_alloc W _ b hb
  have hadlt : ∀ b off, 0 < n → ad = some ⟨b, off, none⟩ → b < W.heap.size := fun b off hn e => by
    obtain ⟨b', off', e', hb', _⟩ := hsl hn
    rw [e] at e'
    injection e' with e'
    injection e' with e1 e2
    omega
  have hcng : ∀ i, i < n → n ≤ l.length → lof (l ++ [p]) i = lof l i := fun i hi hn => lof_append_left l [p] i (by omega)
  refine wpList_plain hgd fun K hK => ?_
  unfold Oper.wp execOp
  simp only [ho, resolve, invoke, builtin, Sem.run_bind, Sem.run_pure, Result.andThen_ok, List.map_toArray, List.map_cons, List.map_nil, hs, hx, hr]
  refine hK _ _ (h v' w1 (Lib.hid hown1) ?_ ?_ ?_ ?_ ?_)
  · rcases h2 with ⟨_, hg⟩ | ⟨_, hg⟩
    · exact Lib.hid fun w hb => (hb.alloc hB _).grown hg (by simp; omega) (fun j hj => by have := (World.ownsRow.lt hown j hj).1; omega)
    · exact Lib.hid fun w hb => (hb.alloc hB _).grown hg (by simp; omega) (fun j hj => by cases hj)
  · refine Lib.hid ?_
    rcases h2 with ⟨hbk, hg⟩ | ⟨_, hg⟩
    · by_cases hn : 0 < n
      · obtain ⟨b, off, e, hb, hc⟩ := hsl hn
        by_cases hvb : v.ownBlock = some b
        · obtain ⟨h3, h4, h5⟩ := hsh b b off hn hvb e rfl
          subst h3
          obtain ⟨g', cap', e', _⟩ := World.ownsRow.form hown1 (by simp)
          subst e'
          have : g' = b := by
            rw [hvb] at hbk
            simpa [Value.ownBlock] using hbk
          subst this
          rw [e]
          exact (hown1.sliceIs n (by simp; omega)).congr fun i hi => by rw [hcng i hi h4, h5 i hi]
        · refine hsl.kept (by have := hg.size; simp at this; omega) fun b' off' _ e' hb' => ?_
          rw [e] at e'
          injection e' with e'
          injection e' with e1 e2
          subst e1
          rw [hg.block b (by simp; omega) (fun e => hvb e.symm)]
          exact hblk b hb
      · exact fun h0 => absurd h0 hn
    · refine hsl.kept (by have := hg.size; simp at this; omega) fun b off _ _ hb => ?_
      rw [hg.block b (by simp; omega) (by simp)]
      exact hblk b hb
  · refine Lib.hid fun g b off hn hv he hbg => ?_
    rcases h2 with ⟨hbk, _⟩ | ⟨hbk, _⟩
    · rw [hbk] at hv
      obtain ⟨h3, h4, h5⟩ := hsh g b off hn hv he hbg
      exact ⟨h3, by simp; omega, fun i hi => by rw [hcng i hi h4, h5 i hi]⟩
    · rw [hbk] at hv
      have h3 := hadlt b off hn he
      simp at hv
      omega
  · rcases h2 with ⟨_, hg⟩ | ⟨_, hg⟩
    · refine Lib.hid ⟨by have := hg.size; simp at this; omega, fun b hb hv => ?_⟩
      rw [hg.block b (by simp; omega) (fun e => hv e.symm)]
      exact hblk b hb
    · refine Lib.hid ⟨by have := hg.size; simp at this; omega, fun b hb _ => ?_⟩
      rw [hg.block b (by simp; omega) (by simp)]
      exact hblk b hb
  · rcases h2 with ⟨hbk, _⟩ | ⟨hbk, _⟩
    · exact Lib.hid fun k hk => .inl (hbk ▸ hk)
    · refine Lib.hid fun k hk => .inr ?_
      rw [hbk] at hk
      simp at hk
      omega
theorem flat_set : ∀ (l : List Ky.Part) (i : Nat) (p : Ky.Part), i < l.length → (((l.flatMap cellsP).set (i * 3) (.bool p.num)).set (i * 3 + 1) (.int .i64 p.n)).set (i * 3 + 2) (.string ⟨p.s.toArray⟩) = (l.set i p).flatMap cellsP
  | q :: l, 0, p, _ => by simp [cellsP]
  | q :: l, i + 1, p, h => by
    have ih := flat_set l i p (by simpa using h)
    have e : (i + 1) * 3 = i * 3 + 3 := by omega
    rw [e]
    simp only [List.flatMap_cons, List.set_cons_succ]
    rw [← ih]
    simp [cellsP, List.set]
/-- A store of a whole part into an own list. -/
theorem OwnP.setP {w : World} {B g n cap : Nat} {l : List Ky.Part} (h : OwnP w B (.slice (some ⟨g, 0, none⟩) n cap) l) (i : Nat) (hi : i < l.length) (p : Ky.Part) :
    OwnP (((w.setCell ⟨g, i * 3, none⟩ (.bool p.num)).setCell ⟨g, i * 3 + 1, none⟩ (.int .i64 p.n)).setCell ⟨g, i * 3 + 2, none⟩ (.string ⟨p.s.toArray⟩)) B (.slice (some ⟨g, 0, none⟩) n cap) (l.set i p) := by
  have hn : l.length = n := by
    rcases h.2 with ⟨h0, _⟩ | ⟨g', cap', cur, h', _⟩
    · simp at h0
    · simp only [Value.slice.injEq] at h'; exact h'.2.1.symm
  unfold OwnP at *
  rw [List.length_set, ← flat_set l i p hi]
  rw [hn] at h ⊢
  exact ((((h.stored (i * 3) (.bool p.num)).1).stored (i * 3 + 1) (.int .i64 p.n)).1.stored (i * 3 + 2) (.string ⟨p.s.toArray⟩)).1
theorem cells_lst (L : Nat → PV) (i : Nat) : cellsP (L i).toP = [.bool (L i).num, .int .i64 (L i).n, .string (L i).s] := by
  unfold cellsP PV.toP
  simp
theorem flat_lst (L : Nat → PV) (n i j : Nat) (hi : i < n) (hj : j < 3) : ((lst L n).flatMap cellsP)[i * 3 + j]? = (cellsP (L i).toP)[j]? := by
  have h : i < (lst L n).length := by simpa [lst] using hi
  rw [flat3 (lst L n) i j h hj]
  simp [lst]
/-- Append of a list that came in: 'append(out, a...)'. -/
theorem wpList_appL {ops : Array Oper} {rest : List Oper} {o : Oper} {a : Act} {Q : Exit → Act → World → Prop} (hgd : o.guard = none) (s x : Operand)
    (ho : o.op = .call { callee := .builtin .append, args := #[s, x], argTypes := #[22, 22] })
    (B : Nat) (v : Value) (l : List Ky.Part) (W : World) (hs : a.eval s = v) (hown : OwnP W B v l) (ad : Option Addr) (n cap : Nat) (L : Nat → PV) (hx : a.eval x = .slice ad n cap) (had : ad = none → n = 0 ∧ cap = 0)
    (hsl : SliceIs W W.heap.size ad n L) (hlen : l.length + n ≤ 1099511627776) (hB : B ≤ W.heap.size)
    (h : ∀ v' w1, Hid (OwnP w1 B v' (l ++ lst L n)) → Hid (∀ w, Below B w W → Below B w w1) → wpList Tryd.prog ops Q rest (a.put o.dst v') w1) : wpList Tryd.prog ops Q (o :: rest) a W := by
  obtain ⟨i0, hi, hz0, hz1, hz2⟩ := info_parts part_info
  cases ad with
  | none =>
    obtain ⟨rfl, rfl⟩ := had rfl
    refine wpList_append_own_none hgd s x 22 ho B 39 i0 3 Tryd.underlying22 hi v l.length (l.flatMap cellsP) hs hown hx (h v W (Lib.hid ?_) (Lib.hid fun w hb => hb))
    rw [show lst L 0 = [] from rfl, List.append_nil]
    exact hown
  | some A =>
    refine wpList_append_own _ hgd s x 22 ho B 39 i0 (.agg #[.bool false, .int .i64 0, .string ⟨#[]⟩]) 3 32 Tryd.underlying22 hi hz0 hz1 hz2 rfl (by decide) v l.length (l.flatMap cellsP) hs hown A n cap ((lst L n).flatMap cellsP) hx (by rw [cellsP_length]; simp [lst])
      (fun j u hj => ?_) (fun u hu => ?_) (by unfold maxLen; omega) (by omega) hB ?_
    · have hjn : j < n * 3 := by
        have := (List.getElem?_eq_some_iff.1 hj).1
        rw [cellsP_length] at this
        simpa [lst] using this
      obtain ⟨b, off, e, hb, hc⟩ := hsl (by omega)
      injection e with e
      subst e
      obtain ⟨k, r, rfl, hr⟩ : ∃ k r, j = k * 3 + r ∧ r < 3 := ⟨j / 3, j % 3, by omega, by omega⟩
      have hq : k < n := by omega
      obtain ⟨c0, c1, c2⟩ := hc k hq
      have he : (Addr.add ⟨b, off, none⟩ (k * 3 + r)) = ⟨b, off + (k * 3 + r), none⟩ := by
        unfold Addr.add
        split <;> simp_all
      rw [he]
      rw [flat_lst L n k r hq hr, cells_lst] at hj
      rcases (by omega : r = 0 ∨ r = 1 ∨ r = 2) with rfl | rfl | rfl <;> simp at hj <;> subst hj
      · simpa using c0
      · simpa [Nat.add_assoc] using c1
      · simpa [Nat.add_assoc] using c2
    · obtain ⟨q, _, hq⟩ := List.mem_flatMap.1 hu
      simp only [cellsP, List.mem_cons, List.not_mem_nil, or_false] at hq
      rcases hq with rfl | rfl | rfl <;> rfl
    · intro v' w1 h1 h2 _
      refine h v' w1 (Lib.hid ?_) (Lib.hid fun w hb => hb.grown h2 hB (fun j hj => by have := (World.ownsRow.lt hown j hj).1; omega))
      unfold OwnP
      rw [List.length_append, List.flatMap_append]
      simpa [lst] using h1
end Go.Proofs.YtfgkgehlokabgaaDoor
