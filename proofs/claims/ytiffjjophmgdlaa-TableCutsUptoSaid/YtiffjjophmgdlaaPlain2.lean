/-
  Plain facts on ordered tables, second part (no program in it): what ranges tell, taking a key out, the last row of each key.
-/
import Derived.Test.YtiffjjophmgdlaaPlain
namespace Go.Proofs.Ytiffjjophmgdlaa.Tb

theorem filter_all {l : List Rw} {p : Rw → Bool} (h : ∀ r ∈ l, p r = true) : l.filter p = l := List.filter_eq_self.2 h
theorem filter_none {l : List Rw} {p : Rw → Bool} (h : ∀ r ∈ l, p r = false) : l.filter p = [] := by
  rw [List.filter_eq_nil_iff]
  exact fun r hr h' => by rw [h r hr] at h'; cases h'
theorem lt_of_lt_of_not {a b c : ByteArray} (h : lt a b = true) (h' : lt c b = false) : lt a c = true := by
  cases h1 : lt a c
  · cases h2 : lt c a
    · rw [lt_total h1 h2] at h
      rw [h] at h'
      cases h'
    · have := lt_trans h2 h
      rw [this] at h'
      cases h'
  · rfl
theorem not_lt_trans {a b c : ByteArray} (h : lt b a = false) (h' : lt c b = false) : lt c a = false := by
  cases h1 : lt c a
  · rfl
  · have := lt_of_lt_of_not h1 h
    rw [this] at h'
    cases h'
theorem ris_filter (lo : ByteArray) : ∀ t : Tr, Sorted t.ino → t.ris lo = t.ino.filter fun r => !lt r.1 lo
  | .nil, _ => rfl
  | .node k v l r, h => by
    obtain ⟨hl, hr, hlk, hrk⟩ := sorted_node h
    unfold Tr.ris
    rw [Tr.ino, List.filter_append, List.filter_cons]
    split
    · rename_i h1
      rw [ris_filter lo r hr, filter_none (l := l.ino) (fun x hx => by rw [lt_trans (hlk x hx) h1]; rfl), h1]
      simp
    · rename_i h1
      have h2 : lt k lo = false := by simpa using h1
      rw [ris_filter lo l hl, ris_filter lo r hr, h2]
      simp
def Tr.fal (hi : ByteArray) : Tr → List Rw
  | .nil => []
  | .node k v l r => if lt k hi = true then r.fal hi ++ (k, v) :: l.fal hi else l.fal hi
theorem fal_filter (hi : ByteArray) : ∀ t : Tr, Sorted t.ino → t.fal hi = (t.ino.filter fun r => lt r.1 hi).reverse
  | .nil, _ => rfl
  | .node k v l r, h => by
    obtain ⟨hl, hr, hlk, hrk⟩ := sorted_node h
    unfold Tr.fal
    rw [Tr.ino, List.filter_append, List.filter_cons]
    split
    · rename_i h1
      rw [fal_filter hi l hl, fal_filter hi r hr]
      simp
    · rename_i h1
      have h2 : lt k hi = false := by simpa using h1
      rw [fal_filter hi l hl, filter_none (l := r.ino) (fun x hx => by
        cases h3 : lt x.1 hi
        · rfl
        · rw [lt_trans (hrk x hx) h3] at h2; cases h2)]
      simp
theorem take_filter {l : List Rw} (p : Rw → Bool) (h : l.Pairwise fun a b => p b = true → p a = true) : l.takeWhile p = l.filter p := by
  induction l with
  | nil => rfl
  | cons a l ih =>
    rw [List.pairwise_cons] at h
    rw [List.takeWhile_cons, List.filter_cons]
    split
    · rw [ih h.2]
    · rename_i h1
      refine (filter_none fun r hr => ?_).symm
      cases h2 : p r
      · rfl
      · exact absurd (h.1 r hr h2) h1
/-- What Range tells, and Back. -/
def mid (L : List Rw) (lo hi : ByteArray) : List Rw := L.filter fun r => !lt r.1 lo && lt r.1 hi
theorem range_tells {t : Tr} (h : Sorted t.ino) (lo hi : ByteArray) : (t.ris lo).takeWhile (fun r => lt r.1 hi) = mid t.ino lo hi := by
  rw [ris_filter lo t h, take_filter]
  · rw [List.filter_filter]
    unfold mid
    congr 1
    funext r
    exact Bool.and_comm _ _
  · refine (List.Pairwise.filter _ h).imp fun {a b} hab hb => ?_
    exact lt_trans hab hb
theorem back_tells {t : Tr} (h : Sorted t.ino) (lo hi : ByteArray) : (t.fal hi).takeWhile (fun r => !lt r.1 lo) = (mid t.ino lo hi).reverse := by
  rw [fal_filter hi t h, take_filter]
  · rw [List.filter_reverse, List.filter_filter]
    rfl
  · rw [List.pairwise_reverse]
    refine (List.Pairwise.filter _ h).imp fun {a b} hab hb => ?_
    cases h1 : lt b.1 lo
    · rfl
    · rw [lt_trans hab h1] at hb; cases hb
theorem cut_from {L : List Rw} (h : Sorted L) {lo hi : ByteArray} (hh : lt hi lo = false) : mid L lo hi ++ (L.filter fun r => !lt r.1 hi) = L.filter fun r => !lt r.1 lo := by
  induction L with
  | nil => rfl
  | cons a L ih =>
    unfold Sorted at h
    rw [List.pairwise_cons] at h
    have ih := ih h.2
    unfold mid at ih ⊢
    rw [List.filter_cons, List.filter_cons, List.filter_cons]
    cases h1 : lt a.1 hi
    · have h2 : lt a.1 lo = false := not_lt_trans hh h1
      have h3 : (L.filter fun r => !lt r.1 lo && lt r.1 hi) = [] := filter_none fun r hr => by
        cases h4 : lt r.1 hi
        · simp
        · rw [lt_trans (h.1 r hr) h4] at h1; cases h1
      rw [h3] at ih ⊢
      simp only [h2, Bool.not_false, Bool.and_false, Bool.false_eq_true, if_false, if_true, List.nil_append]
      rw [← ih]
      simp
    · cases h2 : lt a.1 lo
      · simp only [Bool.not_false, Bool.not_true, Bool.and_true, Bool.false_eq_true, if_false, if_true, List.cons_append]
        rw [ih]
      · simp only [Bool.not_true, Bool.and_true, Bool.false_eq_true, if_false]
        exact ih
theorem cut_all {L : List Rw} (h : Sorted L) (lo : ByteArray) : mid L ⟨#[]⟩ lo ++ (L.filter fun r => !lt r.1 lo) = L := by
  rw [cut_from h (not_lt_nil lo)]
  exact filter_all fun r _ => by rw [not_lt_nil]; rfl
theorem mid_mem {L : List Rw} {lo hi : ByteArray} {r : Rw} (h : r ∈ mid L lo hi) : lt r.1 lo = false ∧ lt r.1 hi = true := by
  unfold mid at h
  have := (List.mem_filter.1 h).2
  simpa using this
theorem mid_le (L : List Rw) (lo hi : ByteArray) : (mid L lo hi).length ≤ L.length := List.length_filter_le _ _
theorem ris_le (t : Tr) (lo : ByteArray) : (t.ris lo).length ≤ t.cnt := by
  induction t with
  | nil => exact Nat.le_refl _
  | node k v l r ihl ihr =>
    unfold Tr.ris
    split
    · simp only [Tr.cnt]; omega
    · simp only [Tr.cnt, List.length_append, List.length_cons]; omega
theorem fal_le (t : Tr) (hi : ByteArray) : (t.fal hi).length ≤ t.cnt := by
  induction t with
  | nil => exact Nat.le_refl _
  | node k v l r ihl ihr =>
    unfold Tr.fal
    split
    · simp only [Tr.cnt, List.length_append, List.length_cons]; omega
    · simp only [Tr.cnt]; omega
theorem find_of_mem (k o : ByteArray) : ∀ t : Tr, Sorted t.ino → (k, o) ∈ t.ino → t.find k = some o
  | .nil, _, h => by cases h
  | .node nk nv l r, hs, h => by
    obtain ⟨hl, hr, hlk, hrk⟩ := sorted_node hs
    unfold Tr.find
    rw [Tr.ino, List.mem_append, List.mem_cons] at h
    rcases h with h | h | h
    · rw [if_pos (hlk _ h)]
      exact find_of_mem k o l hl h
    · simp only [Prod.mk.injEq] at h
      obtain ⟨rfl, rfl⟩ := h
      rw [lt_irrefl, if_neg (by simp)]
      rfl
    · have h1 : lt nk k = true := hrk _ h
      rw [lt_asymm h1, h1, if_neg (by simp), if_pos rfl]
      exact find_of_mem k o r hr h
theorem mem_of_find (k : ByteArray) : ∀ (t : Tr) (o : ByteArray), t.find k = some o → (k, o) ∈ t.ino
  | .nil, _, h => by cases h
  | .node nk nv l r, o, h => by
    unfold Tr.find at h
    simp only [Tr.ino, List.mem_append, List.mem_cons]
    split at h
    · exact .inl (mem_of_find k l o h)
    · split at h
      · exact .inr (.inr (mem_of_find k r o h))
      · rename_i h1 h2
        obtain rfl : k = nk := lt_total (by simpa using h1) (by simpa using h2)
        cases h
        exact .inr (.inl rfl)
/-- The least row; the tree without a key. -/
def Tr.least : Tr → Rw
  | .nil => (⟨#[]⟩, ⟨#[]⟩)
  | .node k v .nil _ => (k, v)
  | .node _ _ l _ => l.least
theorem least_ino : ∀ (k v : ByteArray) (l r : Tr), ∃ rest, (Tr.node k v l r).ino = (Tr.node k v l r).least :: rest
  | k, v, .nil, r => ⟨r.ino, rfl⟩
  | k, v, .node lk lv ll lr, r => by
    obtain ⟨rest, h⟩ := least_ino lk lv ll lr
    refine ⟨rest ++ (k, v) :: r.ino, ?_⟩
    rw [Tr.ino, h]
    rfl
def Tr.rem : Tr → ByteArray → Tr
  | .nil, _ => .nil
  | .node nk nv l r, k => if lt k nk = true then lev (l.rem k) nk nv r else if lt nk k = true then lev l nk nv (r.rem k) else
    match l, r with
    | .nil, r => r
    | l, .nil => l
    | l, r => lev l r.least.1 r.least.2 (r.rem r.least.1)
theorem del_head (k v : ByteArray) (m : List Rw) (h : ∀ r ∈ m, lt k r.1 = true) : del ((k, v) :: m) k = m := by
  have e : (k, v) :: m = [(k, v)] ++ m := rfl
  rw [e, del_append, del_gt m k h]
  simp [del]
theorem rem_ino : ∀ (t : Tr) (k : ByteArray), Sorted t.ino → (t.find k).isSome = true → (t.rem k).ino = del t.ino k
  | .nil, _, _, h => by cases h
  | .node nk nv l r, k, hs, h => by
    obtain ⟨hl, hr, hlk, hrk⟩ := sorted_node hs
    unfold Tr.rem
    unfold Tr.find at h
    split
    · rename_i h1
      rw [if_pos h1] at h
      have : ∀ x ∈ (nk, nv) :: r.ino, lt k x.1 = true := fun x hx => by
        rcases List.mem_cons.1 hx with rfl | hx
        · exact h1
        · exact lt_trans h1 (hrk x hx)
      rw [ino_lev, rem_ino l k hl h, Tr.ino, del_append, del_gt _ k this]
    · rename_i h1
      rw [if_neg h1] at h
      split
      · rename_i h2
        rw [if_pos h2] at h
        have e : l.ino ++ (nk, nv) :: r.ino = (l.ino ++ [(nk, nv)]) ++ r.ino := by simp
        rw [ino_lev, rem_ino r k hr h, Tr.ino, e, del_append, del_lt (l.ino ++ [(nk, nv)]) k ?_]
        · simp
        · intro x hx
          rcases List.mem_append.1 hx with hx | hx
          · exact lt_trans (hlk x hx) h2
          · obtain rfl := List.mem_singleton.1 hx
            exact h2
      · rename_i h2
        obtain rfl : k = nk := lt_total (by simpa using h1) (by simpa using h2)
        rw [Tr.ino, del_append, del_lt l.ino k hlk, del_head k nv r.ino hrk]
        cases l with
        | nil => rfl
        | node lk lv ll lr =>
          cases r with
          | nil => simp [Tr.ino]
          | node rk rv rl rr =>
            obtain ⟨rest, he⟩ := least_ino rk rv rl rr
            dsimp only
            have hf := find_of_mem (Tr.node rk rv rl rr).least.1 (Tr.node rk rv rl rr).least.2 _ hr (by rw [he]; exact List.mem_cons_self ..)
            rw [ino_lev, rem_ino (.node rk rv rl rr) _ hr (by rw [hf]; rfl), he]
            have hg : ∀ x ∈ rest, lt (Tr.node rk rv rl rr).least.1 x.1 = true := by
              have h3 := hr
              rw [he] at h3
              exact (List.pairwise_cons.1 h3).1
            rw [show (Tr.node rk rv rl rr).least = ((Tr.node rk rv rl rr).least.1, (Tr.node rk rv rl rr).least.2) from rfl, del_head _ _ rest hg]
theorem rem_cnt : ∀ (t : Tr) (k : ByteArray), (t.rem k).cnt ≤ t.cnt
  | .nil, _ => Nat.le_refl _
  | .node nk nv l r, k => by
    have h1 := rem_cnt l k
    have h2 := rem_cnt r k
    unfold Tr.rem
    split
    · rw [cnt_lev]; simp only [Tr.cnt]; omega
    · split
      · rw [cnt_lev]; simp only [Tr.cnt]; omega
      · cases l with
        | nil => simp only [Tr.cnt]; omega
        | node lk lv ll lr =>
          cases r with
          | nil => simp only [Tr.cnt]; omega
          | node rk rv rl rr =>
            have h3 := rem_cnt (.node rk rv rl rr) (Tr.node rk rv rl rr).least.1
            dsimp only
            rw [cnt_lev]
            simp only [Tr.cnt] at h3 ⊢
            omega
theorem bts_del {L : List Rw} (h : Sorted L) {k o : ByteArray} (hm : (k, o) ∈ L) : bts (del L k) + (k.size + o.size) = bts L := by
  induction L with
  | nil => cases hm
  | cons a L ih =>
    have hs := List.pairwise_cons.1 h
    rcases List.mem_cons.1 hm with rfl | hm
    · rw [del_head k o L (fun r hr => hs.1 r hr), bts_cons]
      dsimp only
      omega
    · have h1 := ih hs.2 hm
      have h2 : a.1 ≠ k := lt_ne (hs.1 _ hm)
      have e : del (a :: L) k = a :: del L k := by
        unfold del
        rw [List.filter_cons, if_pos (by simpa using h2)]
      rw [e, bts_cons, bts_cons]
      omega
/-- One value for a key. -/
theorem sorted_one {L : List Rw} (h : Sorted L) {k o o' : ByteArray} (h1 : (k, o) ∈ L) (h2 : (k, o') ∈ L) : o = o' := by
  induction L with
  | nil => cases h1
  | cons a L ih =>
    have hs := List.pairwise_cons.1 h
    rcases List.mem_cons.1 h1 with rfl | h1'
    · rcases List.mem_cons.1 h2 with e | h2'
      · simp only [Prod.mk.injEq, true_and] at e
        exact e.symm
      · have := hs.1 _ h2'
        dsimp only at this
        rw [lt_irrefl] at this
        cases this
    · rcases List.mem_cons.1 h2 with rfl | h2'
      · have := hs.1 _ h1'
        dsimp only at this
        rw [lt_irrefl] at this
        cases this
      · exact ih hs.2 h1' h2'
theorem mem_ins {l : List Rw} {k v : ByteArray} : ∀ x, x = (k, v) ∨ x ∈ l → x ∈ ins l k v := fun x h => by
  unfold ins
  rw [List.mem_append, List.mem_cons]
  rcases h with h | h
  · exact .inr (.inl h)
  · rw [← List.takeWhile_append_dropWhile (p := fun r => lt r.1 k) (l := l), List.mem_append] at h
    exact h.imp id .inr
theorem mem_rput {l : List Rw} {k v : ByteArray} {x : Rw} (h : x ∈ l) (hk : x.1 ≠ k) : x ∈ rput l k v := mem_ins x (.inr (by
  unfold del
  rw [List.mem_filter]
  exact ⟨h, decide_eq_true hk⟩))
/-- Each key that was handed in is there. -/
theorem key_there (rows : List Rw) : ∀ r ∈ rows, ∃ v, (r.1, v) ∈ refOf rows := by
  refine snoc_ind (p := fun rows => ∀ r ∈ rows, ∃ v, (r.1, v) ∈ refOf rows) (fun r hr => by cases hr) (fun l a ih => ?_) rows
  intro r hr
  rw [refOf_snoc]
  by_cases h : r.1 = a.1
  · exact ⟨a.2, mem_ins _ (.inl (by rw [h]))⟩
  · rcases List.mem_append.1 hr with hr | hr
    · obtain ⟨v, hv⟩ := ih r hr
      exact ⟨v, mem_rput hv h⟩
    · exact absurd (by rw [List.mem_singleton.1 hr]) h
/-- The last row of a key is there. -/
theorem last_there (l1 : List Rw) (r : Rw) (l2 : List Rw) (h : ∀ x ∈ l2, x.1 ≠ r.1) : r ∈ refOf (l1 ++ r :: l2) := by
  revert h
  refine snoc_ind (p := fun l2 => (∀ x ∈ l2, x.1 ≠ r.1) → r ∈ refOf (l1 ++ r :: l2)) (fun _ => ?_) (fun l a ih h => ?_) l2
  · rw [show l1 ++ [r] = l1 ++ [(r.1, r.2)] from rfl, refOf_snoc]
    exact mem_ins _ (.inl rfl)
  · rw [show l1 ++ r :: (l ++ [a]) = (l1 ++ r :: l) ++ [(a.1, a.2)] by simp, refOf_snoc]
    exact mem_rput (ih fun x hx => h x (by simp [hx])) (h a (by simp)).symm
/-- Where the loop of lasts stands: the rows from i on are out of the tree c. -/
def Out (rows : List Rw) (i : Nat) (c : Tr) : Prop := ∀ x, x ∈ c.ino ↔ x ∈ refOf rows ∧ ∀ y ∈ rows.drop i, y.1 ≠ x.1
theorem out_start (rows : List Rw) : Out rows rows.length (trOf rows) := fun x => by
  rw [(of_ino rows).1, List.drop_length]
  simp
theorem out_end {rows : List Rw} {c : Tr} (h : Out rows 0 c) : c.ino = [] := by
  refine List.eq_nil_iff_forall_not_mem.2 fun x hx => ?_
  obtain ⟨h1, h2⟩ := (h x).1 hx
  exact h2 x (by rw [List.drop_zero]; exact of_mem rows x h1) rfl
theorem out_step {rows : List Rw} {i : Nat} {c : Tr} {r : Rw} (h : Out rows (i + 1) c) (hs : Sorted c.ino) (hi : rows[i]? = some r) : Out rows i (if (c.find r.1).isSome then c.rem r.1 else c) := fun x => by
  obtain ⟨h1, h2⟩ := List.getElem?_eq_some_iff.1 hi
  have e : rows.drop i = r :: rows.drop (i + 1) := by rw [List.drop_eq_getElem_cons h1, h2]
  rw [e]
  have hmem : x ∈ (if (c.find r.1).isSome then c.rem r.1 else c).ino ↔ x ∈ c.ino ∧ x.1 ≠ r.1 := by
    by_cases hf : (c.find r.1).isSome = true
    · rw [if_pos hf, rem_ino c r.1 hs hf]
      unfold del
      rw [List.mem_filter]
      simp
    · rw [if_neg hf]
      refine ⟨fun hx => ⟨hx, fun e => hf ?_⟩, fun hx => hx.1⟩
      have := find_of_mem x.1 x.2 c hs hx
      rw [e] at this
      rw [this]
      rfl
  rw [hmem, h x]
  simp only [List.mem_cons, forall_eq_or_imp]
  constructor
  · rintro ⟨⟨h3, h4⟩, h5⟩
    exact ⟨h3, h5.symm, h4⟩
  · rintro ⟨h3, h4, h5⟩
    exact ⟨⟨h3, h5⟩, h4.symm⟩
theorem sorted_out {c : Tr} (hs : Sorted c.ino) (k : ByteArray) : Sorted (if (c.find k).isSome then c.rem k else c).ino := by
  by_cases hf : (c.find k).isSome = true
  · rw [if_pos hf, rem_ino c k hs hf]
    exact sorted_del hs k
  · rw [if_neg hf]
    exact hs
/-- What the loop of lasts asks: the key is in the table; what the tree c has under it is the row's, and the table's. -/
theorem out_find {rows : List Rw} {i : Nat} {c : Tr} {r : Rw} (h : Out rows (i + 1) c) (hi : rows[i]? = some r) :
    ∃ o, (trOf rows).find r.1 = some o ∧ (c.find r.1 = none ∨ (c.find r.1 = some r.2 ∧ o = r.2)) := by
  obtain ⟨h1, h2⟩ := List.getElem?_eq_some_iff.1 hi
  have hso : Sorted (trOf rows).ino := by rw [(of_ino rows).1]; exact (of_ino rows).2
  obtain ⟨o, ho⟩ := key_there rows r (List.mem_of_getElem? hi)
  have hf : (trOf rows).find r.1 = some o := find_of_mem _ _ _ hso (by rw [(of_ino rows).1]; exact ho)
  refine ⟨o, hf, ?_⟩
  cases hc : c.find r.1 with
  | none => exact .inl rfl
  | some v =>
    have h3 := (h _).1 (mem_of_find _ _ _ hc)
    have h4 : r ∈ refOf rows := by
      have e : rows = rows.take i ++ r :: rows.drop (i + 1) := by
        rw [← h2, ← List.drop_eq_getElem_cons h1, List.take_append_drop]
      have := last_there (rows.take i) r (rows.drop (i + 1)) (fun x hx => h3.2 x hx)
      rwa [← e] at this
    have h5 : (r.1, r.2) ∈ refOf rows := h4
    have e1 := sorted_one (of_ino rows).2 h3.1 h5
    have e2 := sorted_one (of_ino rows).2 ho h5
    exact .inr ⟨by rw [e1], e2⟩
theorem of_pos (rows : List Rw) : (0 < (trOf rows).cnt) ↔ 0 < rows.length := by
  rw [cnt_eq, (of_ino rows).1]
  constructor
  · intro h
    have := List.length_pos_iff_exists_mem.1 h
    obtain ⟨x, hx⟩ := this
    exact List.length_pos_iff_exists_mem.2 ⟨x, of_mem rows x hx⟩
  · intro h
    obtain ⟨x, hx⟩ := List.length_pos_iff_exists_mem.1 h
    obtain ⟨v, hv⟩ := key_there rows x hx
    exact List.length_pos_iff_exists_mem.2 ⟨_, hv⟩
theorem bts_take {L : List Rw} {i : Nat} {r : Rw} (h : L[i]? = some r) : bts (L.take (i + 1)) = bts (L.take i) + (r.1.size + r.2.size) := by
  obtain ⟨h1, h2⟩ := List.getElem?_eq_some_iff.1 h
  rw [List.take_succ_eq_append_getElem h1, h2, bts_append, bts_cons]
  simp [bts]
theorem bts_take_le (L : List Rw) (i : Nat) : bts (L.take i) ≤ bts L := by
  have := bts_append (L.take i) (L.drop i)
  rw [List.take_append_drop] at this
  omega
end Go.Proofs.Ytiffjjophmgdlaa.Tb
