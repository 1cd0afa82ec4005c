/-
  Walks over statements of layer 7: a tear.
-/
import Derived.Test.YtffmekcpkilkoaaDoorOneForm
import Derived.Deep.LoopGhost
namespace Go.Proofs.YtffmekcpkilkoaaDoor
open Go.RowKit

theorem isSome_false {α : Type} {o : Option α} (h : ¬ o.isSome = true) : o.isSome = false := by simpa using h
theorem tear_new (la p : List UInt8) (old stamp n : Nat) (ht : getN (la.drop 248) 8 = old) (hp : p.length ≤ 234) (hs : stamp < 18446744073709551616) (h0 : stamp ≠ 0) (hne : old ≠ stamp) (hn : n ≤ 256) :
    (openL stamp (tornL la (sealL stamp p) n)).isSome = (tornL la (sealL stamp p) n == sealL stamp p) := by
  have hlb := sealL_length stamp p hp
  by_cases h : tornL la (sealL stamp p) n = sealL stamp p
  · rw [h, beq_self_eq_true, (openL_iff stamp _ p).2 ⟨h0, hp, rfl⟩]
    rfl
  · rw [beq_eq_false_iff_ne.2 h]
    apply isSome_false
    intro hc
    obtain ⟨_, q, hq, e⟩ := (openL_isSome _ _).1 hc
    have e1 := sealL_drop248 stamp q hq
    rw [← e] at e1
    by_cases h1 : n ≤ 248
    · rw [torn_tail_low la _ n hlb h1] at e1
      rw [e1, getN_low_all _ _ (by omega)] at ht
      exact hne ht.symm
    · obtain ⟨m, rfl⟩ : ∃ m, n = 248 + m := ⟨n - 248, by omega⟩
      rw [torn_tail_high la _ m hlb (by omega), ← sealL_drop248 stamp p hp] at e1
      have e2 := congrArg (List.drop m) e1
      rw [List.drop_left' (by simp [sealL_drop248 stamp p hp, lowL_length]; omega)] at e2
      apply h
      apply torn_rest
      simpa [List.drop_drop, Nat.add_comm] using e2
theorem tear_old (p0 p : List UInt8) (old stamp n : Nat) (hp0 : p0.length ≤ 234) (hp : p.length ≤ 234) (hs : stamp < 18446744073709551616) (ho : old < 18446744073709551616) (h0 : old ≠ 0) (hne : old ≠ stamp) (hn : n ≤ 256) :
    (openL old (tornL (sealL old p0) (sealL stamp p) n)).isSome = (tornL (sealL old p0) (sealL stamp p) n == sealL old p0) := by
  have hlb := sealL_length stamp p hp
  by_cases h : tornL (sealL old p0) (sealL stamp p) n = sealL old p0
  · rw [h, beq_self_eq_true, (openL_iff old _ p0).2 ⟨h0, hp0, rfl⟩]
    rfl
  · rw [beq_eq_false_iff_ne.2 h]
    apply isSome_false
    intro hc
    obtain ⟨_, q, hq, e⟩ := (openL_isSome _ _).1 hc
    have e1 := sealL_take8 old q
    rw [← e] at e1
    by_cases h1 : 8 ≤ n
    · rw [torn_head _ _ n 8 hlb h1 hn, sealL_take8] at e1
      have := congrArg (getN · 8) e1
      simp only [getN_low_all stamp 8 (by omega), getN_low_all old 8 (by omega)] at this
      exact hne this.symm
    · apply h
      apply torn_old
      have e2 := congrArg (List.take n) e1
      rw [List.take_take, Nat.min_eq_left (by omega), torn_head _ _ n n hlb (Nat.le_refl _) hn] at e2
      rw [e2]
      have e3 := congrArg (List.take n) (sealL_take8 old p0)
      rw [List.take_take, Nat.min_eq_left (by omega)] at e3
      exact e3.symm
theorem tear_third (la p : List UInt8) (old stamp x n : Nat) (ht : getN (la.drop 248) 8 = old) (hp : p.length ≤ 234) (hs : stamp < 18446744073709551616) (hx : x < 18446744073709551616) (h1 : x ≠ stamp) (h2 : x ≠ old) (hn : n ≤ 256) :
    (openL x (tornL la (sealL stamp p) n)).isSome = false := by
  have hlb := sealL_length stamp p hp
  apply isSome_false
  intro hc
  obtain ⟨_, q, hq, e⟩ := (openL_isSome _ _).1 hc
  by_cases h : 8 ≤ n
  · have e1 := sealL_take8 x q
    rw [← e, torn_head _ _ n 8 hlb h hn, sealL_take8] at e1
    have := congrArg (getN · 8) e1
    simp only [getN_low_all stamp 8 (by omega), getN_low_all x 8 (by omega)] at this
    exact h1 this.symm
  · have e1 := sealL_drop248 x q hq
    rw [← e, torn_tail_low _ _ n hlb (by omega)] at e1
    rw [e1, getN_low_all _ _ (by omega)] at ht
    exact h2 ht
theorem zeros_tail : ∀ n k, getN (List.replicate n 0) k = 0
  | n, 0 => rfl
  | n, k + 1 => by
    show getN (List.replicate n 0) k + ((List.replicate n (0 : UInt8)).getD k 0).toNat * 2 ^ (8 * k) = 0
    rw [zeros_tail n k]
    have : (List.replicate n (0 : UInt8)).getD k 0 = 0 := by
      rw [List.getD_eq_getElem?_getD, List.getElem?_replicate]
      split <;> rfl
    rw [this]
    simp

/-- The tear as bytes. -/
theorem tornS_list (a b : ByteArray) (n : Nat) : (tornS a b n).data.toList = tornL a.data.toList b.data.toList n := by
  unfold tornS tornL
  rw [ByteArray.data_append, Array.toList_append, Lib.extract_data, extract_end]
  simp
theorem counts_ok {E : Prop} (stamp : Nat) (hst : stamp < 18446744073709551616) (s : ByteArray) (B : Nat) (A : Nat → Addr) (w : World) (hG : GlobE E B w A) (b : Bool) (hb : Hid ((openL stamp s.data.toList).isSome = b)) :
    Calls Tryd.prog 21 #[.int .u64 stamp, .string s] w fun e w' => e = .returned (.bool b) ∧ Below w.heap.size w w' := by
  have := counts_any stamp hst s _ rfl w hG.nib hG.gH
  rwa [hb.out] at this
theorem ends_ok (s : ByteArray) (hs : s.size = 256) (w : World) (h t : Nat) (hh : Hid (getN s.data.toList 8 = h)) (ht : Hid (getN (s.data.toList.drop 248) 8 = t)) :
    Calls Tryd.prog 15 #[.string s] w fun e w' => e = .returned (.tuple #[.int .u64 h, .int .u64 t, .nilIface]) ∧ ∃ k, w' = w.drewN k := by
  have := ends_yes s _ rfl hs w
  rwa [hh.out, ht.out] at this
theorem tear_ok (a b T : ByteArray) (n : Nat) (ha : Hid (a.size = 256)) (hb : Hid (b.size = 256)) (hn : (n : Int) ≤ 256) (hT : Hid (tornS a b n = T)) (w : World) :
    Calls Tryd.prog 18 #[.string a, .string b, .int .i64 n] w fun e w' => e = .returned (.tuple #[.string T, .nilIface]) ∧ ∃ k, w' = w.drewN k := by
  have := tear_yes a b n (by rw [ha.out]; rfl) (by rw [hb.out]; rfl) hn w
  rwa [hT.out] at this
/-- 256 zeros. -/
def zeroS : ByteArray := ⟨(List.replicate 256 0).toArray⟩
theorem zeroS_list : zeroS.data.toList = List.replicate 256 0 := rfl
theorem zeroS_size : zeroS.size = 256 := by show (List.replicate 256 (0 : UInt8)).toArray.size = 256; rw [List.size_toArray, List.length_replicate]
theorem conv_zero (W : World) : (convert 50 9 (.slice (some ⟨W.heap.size, 0, none⟩) 256 256)).run Tryd.prog (W.alloc (.cells (madeCells #[.int .u8 0] 256) 5)) = .ok (.string zeroS) (W.alloc (.cells (madeCells #[.int .u8 0] 256) 5)) := by
  have := conv_bytes (W.alloc (.cells (madeCells #[.int .u8 0] 256) 5)) W.heap.size 256 256 _ (bytesAt_made W 256 _) (by rw [List.length_replicate]; omega)
  rw [List.take_of_length_le (by rw [List.length_replicate]; omega)] at this
  exact this
theorem wrap_u64_nat (x : Int) : ∃ u : Nat, u < 18446744073709551616 ∧ IntKind.u64.wrap x = (u : Int) :=
  ⟨(IntKind.u64.wrap x).toNat, by rw [IntKind.wrap_u64]; omega, by rw [IntKind.wrap_u64]; omega⟩
theorem cells5 (v0 v1 v2 v3 v4 : Nat) (k : Nat) (hk : k < 5) (P : Nat → Prop) (h0 : P v0) (h1 : P v1) (h2 : P v2) (h3 : P v3) (h4 : P v4) :
    ∃ x : Nat, P x ∧ (#[.int .u64 v0, .int .u64 v1, .int .u64 v2, .int .u64 v3, .int .u64 v4] : Array Value)[k]? = some (.int .u64 x) := by
  match k, hk with
  | 0, _ => exact ⟨v0, h0, rfl⟩
  | 1, _ => exact ⟨v1, h1, rfl⟩
  | 2, _ => exact ⟨v2, h2, rfl⟩
  | 3, _ => exact ⟨v3, h3, rfl⟩
  | 4, _ => exact ⟨v4, h4, rfl⟩
set_option maxRecDepth 100000 in
set_option maxHeartbeats 4000000 in
theorem tear_zero {E : Prop} (stamp third : Nat) (nn : Int) (was pay : ByteArray) (hs : stamp < 18446744073709551616) (hth : third < 18446744073709551616) (hs0 : 0 < stamp) (hne : stamp ≠ 0) (hmw : was.size ≤ maxLen) (hmp : pay.size ≤ maxLen) (B : Nat) (A : Nat → Addr) (w : World) (hG : GlobE E B w A) :
    Calls Tryd.prog 6 #[.int .u64 0, .string was, .int .u64 stamp, .string pay, .int .i64 nn, .int .u64 third] w fun e w' => e = .returned (.bool true) ∧ Below w.heap.size w w' := by
  have hnn : ∀ W : World, (binOp .eql 25 .nilIface .nilIface).run Tryd.prog W = .ok (.bool true) W := fun W => by kernel_rfl
  have hnn2 : ∀ W : World, (binOp .neq 25 .nilIface .nilIface).run Tryd.prog W = .ok (.bool false) W := fun W => by kernel_rfl
  obtain ⟨Z, hZ⟩ : ∃ Z : ByteArray, Hid (Z = zeroS) := ⟨_, Lib.hid rfl⟩
  have hmk : ∀ W : World, (Instr.makeSlice 50 (.int .i64 256) (.int .i64 256)).run Tryd.prog W = .ok (.slice (some ⟨W.heap.size, 0, none⟩) 256 256) (W.alloc (.cells (madeCells #[.int .u8 0] 256) 5)) :=
    fun W => run_make_row' (P := Tryd.prog) 50 5 (.int .u8 0) 1 Tryd.underlying50 (by kernel_rfl) rfl .i64 .i64 256 (by omega) (by omega) W
  have hcz : ∀ W : World, (convert 50 9 (.slice (some ⟨W.heap.size, 0, none⟩) 256 256)).run Tryd.prog (W.alloc (.cells (madeCells #[.int .u8 0] 256) 5)) = .ok (.string Z) (W.alloc (.cells (madeCells #[.int .u8 0] 256) 5)) := fun W => by rw [hZ.out]; exact conv_zero W
  have hs1 : ((stamp : Int) == 0) = false := beq_eq_false_iff_ne.2 (by omega)
  obtain ⟨a, rfl⟩ : ∃ a : ByteArray, a = Z := ⟨_, rfl⟩
  have hal : Hid (a.data.toList = List.replicate 256 0) := by rw [hZ.out]; exact Lib.hid zeroS_list
  have hlen : Hid (a.data.toList.length = 256) := by rw [hal.out, List.length_replicate]; exact Lib.hid rfl
  have htl : Hid (getN (a.data.toList.drop 248) 8 = 0) := by rw [hal.out, rep_drop]; exact Lib.hid (zeros_tail _ _)
  obtain ⟨b, hbb⟩ : ∃ b : ByteArray, Hid (b = ⟨(sealL stamp (cutS pay).data.toList).toArray⟩) := ⟨_, Lib.hid rfl⟩
  have hbl : Hid (b.data.toList = sealL stamp (cutS pay).data.toList) := by rw [hbb.out]; exact Lib.hid rfl
  have hcp : (cutS pay).data.toList.length ≤ 234 := by rw [← size_list _ _ rfl]; exact cutS_size pay
  have has : Hid (a.size = 256) := by rw [size_list a _ rfl]; exact hlen
  have hbs : Hid (b.size = 256) := by rw [size_list b _ rfl, hbl.out]; exact Lib.hid (sealL_length stamp _ hcp)
  obtain ⟨u, hu, hun⟩ := wrap_u64_nat nn
  obtain ⟨n, hn⟩ : ∃ n : Nat, Hid (u % 257 = n) := ⟨_, Lib.hid rfl⟩
  have hn1 : (n : Int) ≤ 256 := by have := hn.out; omega
  have hn2 : (u : Int) % 257 = (n : Int) := by have := hn.out; omega
  obtain ⟨T, hT⟩ : ∃ T : ByteArray, Hid (tornS a b n = T) := ⟨_, Lib.hid rfl⟩
  have hTl : Hid (T.data.toList = tornL a.data.toList (sealL stamp (cutS pay).data.toList) n) := by rw [← hT.out, tornS_list, hbl.out]; exact Lib.hid rfl
  have hTs : Hid (T.size = 256) := by rw [size_list T _ hTl.out]; exact Lib.hid (tornL_length _ _ n hlen.out (sealL_length stamp _ hcp) (by omega))
  have hTe : (T.toList == (b.extract 0 n ++ a.extract n a.size).toList) = true := by rw [← hT.out]; exact beq_self_eq_true _
  obtain ⟨c1, hc1⟩ : ∃ c : Bool, Hid ((openL stamp T.data.toList).isSome = c) := ⟨_, Lib.hid rfl⟩
  have he1 : (T.toList == b.toList) = c1 := by rw [← hc1.out, ByteArray.toList_eq, ByteArray.toList_eq, hTl.out, hbl.out]; exact (tear_new _ _ _ stamp n htl.out hcp hs (by omega) (by omega) (by omega)).symm
  obtain ⟨hd, hhd⟩ : ∃ h : Nat, Hid (getN T.data.toList 8 = h) := ⟨_, Lib.hid rfl⟩
  obtain ⟨tl, htt⟩ : ∃ h : Nat, Hid (getN (T.data.toList.drop 248) 8 = h) := ⟨_, Lib.hid rfl⟩
  have hhl : Hid (hd < 18446744073709551616) := by rw [← hhd.out]; exact Lib.hid (getN_lt _ 8)
  have hthird := hide fun (x : Nat) (hx : x < 18446744073709551616) (h1 : x ≠ stamp) (h2 : x ≠ 0) => (show Hid ((openL x T.data.toList).isSome = false) by rw [hTl.out]; exact Lib.hid (tear_third _ _ 0 stamp x n htl.out hcp hs hx h1 h2 (by omega)))
  have ho1 : 1 < 18446744073709551616 := by omega
  obtain ⟨s1, hs4, hs5⟩ := wrap_u64_nat ((stamp : Nat) + 1)
  have hb1 : n ≤ b.size := by rw [hbs.out]; omega
  have hb2 : (n : Int) ≤ (b.size : Int) := by omega
  have ha1 : n ≤ a.size := by rw [has.out]; omega
  have ha2 : (n : Int) ≤ (a.size : Int) := by omega
  have ha3 : (a.size : Int) ≤ 256 := by rw [has.out]; omega
  have hb3 : (b.size : Int) ≤ 256 := by rw [hbs.out]; omega
  have HB := hide fun (W : World) (hW : GlobE E B W A) => seal_ok stamp hs hs0 (cutS pay) (cutS_size pay) B A W hW b hbb
  have HT := hide fun (W : World) => tear_ok a b T n has hbs hn1 hT W
  have HC1 := hide fun (W : World) (hW : GlobE E B W A) => counts_ok stamp hs T B A W hW c1 hc1
  have HE := hide fun (W : World) => ends_ok T hTs.out W hd tl hhd htt
  have HL := Lib.hid hu
  have HO1 := Lib.hid ho1
  have HS4 := Lib.hid hs4
  have HS := Lib.hid hs
  have HX := Lib.hid hth
  have HNE := Lib.hid hne
  have HG0 := Lib.hid hG
  have HB0 : Hid (Below w.heap.size w w) := Lib.hid (Below.refl _ _)
  clear hG
  have HMW := Lib.hid hmw
  have HMP := Lib.hid hmp
  clear hs hmw hmp
  clear hn hbb hbl hcp hbs hal hlen htl has hT hTl hTs hc1 hhd htt hu ho1 hs4 hth hne
  go_enter Tryd.func6, Tryd.ntmps6
  go_wp2_with fail
  refine (fixed_any B A _ HG0.out).mono ?_
  rintro e w1 ⟨rfl, hb⟩
  have HG1 := Lib.hid (HG0.out.on hb)
  have HB1 := Lib.hid (HB0.out.trans (hb.mono HB0.out.size))
  clear hb
  go_wp2_with fail
  refine (cut_any pay HMP.out _).mono ?_
  rintro e w9 ⟨rfl, rfl⟩
  have hb := (Below.refl w1.heap.size w1).alloc (Nat.le_refl _) (.cells (madeCells #[.int .u8 0] 256) 5)
  have HG2 := Lib.hid (HG1.out.on hb)
  have HB2 := Lib.hid (HB1.out.trans (hb.mono HB1.out.size))
  clear hb hmk hcz
  generalize w1.alloc (.cells (madeCells #[.int .u8 0] 256) 5) = w2 at HG2 HB2 ⊢
  go_wp2_with fail
  refine (unhide HB _ HG2.out).mono ?_
  rintro e w3 ⟨rfl, hb⟩
  have HG3 := Lib.hid (HG2.out.on hb)
  have HB3 := Lib.hid (HB2.out.trans (hb.mono HB2.out.size))
  clear hb
  go_wp2_with fail
  refine (unhide HT _).mono ?_
  rintro e w4 ⟨rfl, k4, rfl⟩
  have hb := bdn (Below.refl w3.heap.size w3) k4
  have HG4 := Lib.hid (HG3.out.on hb)
  have HB4 := Lib.hid (HB3.out.trans (hb.mono HB3.out.size))
  clear hb
  generalize w3.drewN k4 = w4 at HG4 HB4 ⊢
  go_wp2_with fail
  go_quiet (fail)
  have hb := bdn (Below.refl w4.heap.size w4) nq
  have HG5 := Lib.hid (HG4.out.on hb)
  have HB5 := Lib.hid (HB4.out.trans (hb.mono HB4.out.size))
  clear hb
  generalize w4.drewN nq = w5 at HG5 HB5 ⊢
  go_wp2_with fail
  refine (unhide HC1 _ HG5.out).mono ?_
  rintro e w6 ⟨rfl, hb⟩
  have HG6 := Lib.hid (HG5.out.on hb)
  have HB6 := Lib.hid (HB5.out.trans (hb.mono HB5.out.size))
  clear hb
  cases c1
  all_goals
    go_wp2_with fail
    refine (unhide HE _).mono ?_
    rintro e w7 ⟨rfl, k7, rfl⟩
    have hb := bdn (Below.refl w6.heap.size w6) k7
    have HG7 := Lib.hid (HG6.out.on hb)
    have HB7 := Lib.hid (HB6.out.trans (hb.mono HB6.out.size))
    clear hb
    generalize w6.drewN k7 = w7 at HG7 HB7 ⊢
    go_wp2_with fail
    go_loopw [115] (fun i wr => ∃ k : Nat, k ≤ 5 ∧ i = .int .i64 k ∧ Hid (Below (w7.heap.size + 1) (w7.alloc (.cells #[.int .u64 third, .int .u64 hd, .int .u64 1, .int .u64 1, .int .u64 s1] 22)) wr)) (fun i _ => 5 - (intOf i).toNat)
    case atStart => exact ⟨0, by omega, rfl, Lib.hid (Below.refl _ _)⟩
    case round =>
      obtain ⟨k, hk, rfl, HBw⟩ := hrel
      have HGw := Lib.hid (HG7.out.below (((Below.refl _ w7).alloc (Nat.le_refl _) _).trans (HBw.out.mono (by simp))) HG7.out.size)
      have HBz := Lib.hid (HB7.out.trans ((((Below.refl _ w7).alloc (Nat.le_refl _) _).trans (HBw.out.mono (by simp))).mono HB7.out.size))
      by_cases hk5 : k < 5
      · obtain ⟨x, hx, hcx⟩ := cells5 third hd 1 1 s1 k hk5 (· < 18446744073709551616) HX.out hhl.out (by omega) HO1.out HS4.out
        have hcell : wr.cell? ⟨w7.heap.size, k, none⟩ = some (.int .u64 x) := by
          rw [HBw.out.cell (p := ⟨w7.heap.size, k, none⟩) (by simp), World.cell?_alloc_at _ _ _ _ rfl]; exact hcx
        clear hcx
        have HX2 := Lib.hid hx
        clear hx
        by_cases e1 : x = stamp
        · have e2 : ((x : Int) != (stamp : Int)) = false := by rw [e1]; simp
          clear e1
          go_wp2_with fail
          go_roundw
          case rel => exact ⟨k + 1, by omega, by go_num, HBw⟩
          case measure => simp [intOf]; omega
        · have e2 : ((x : Int) != (stamp : Int)) = true := bne_iff_ne.2 (by omega)
          by_cases e3 : x = 0
          · have e4 : ((x : Int) != 0) = false := by rw [e3]; simp
            clear e1 e3
            go_wp2_with fail
            go_roundw
            case rel => exact ⟨k + 1, by omega, by go_num, HBw⟩
            case measure => simp [intOf]; omega
          · have e4 : ((x : Int) != 0) = true := bne_iff_ne.2 (by omega)
            have hc := hide fun (W : World) (hW : GlobE E B W A) => counts_ok x HX2.out T B A W hW false (unhide hthird x HX2.out e1 e3)
            clear e1 e3
            go_wp2_with fail
            refine (unhide hc _ HGw.out).mono ?_
            rintro e w30 ⟨rfl, hb⟩
            have HB5 := Lib.hid (HBw.out.trans (hb.mono (by have := HBw.out.size; simpa using this)))
            clear hb HBw
            go_wp2_with fail
            go_roundw
            case rel => exact ⟨k + 1, by omega, by go_num, HB5⟩
            case measure => simp [intOf]; omega
      · have hk6 : ¬ (k : Int) < 5 := by omega
        go_wp2_with fail
        go_ret
        exact ⟨rfl, HBz.out⟩
set_option maxRecDepth 100000 in
set_option maxHeartbeats 4000000 in
theorem tear_pos {E : Prop} (old stamp third : Nat) (nn : Int) (was pay : ByteArray) (ho : old < 18446744073709551616) (hs : stamp < 18446744073709551616) (hth : third < 18446744073709551616) (h0 : 0 < old) (hs0 : 0 < stamp) (hne : stamp ≠ old) (hmw : was.size ≤ maxLen) (hmp : pay.size ≤ maxLen) (B : Nat) (A : Nat → Addr) (w : World) (hG : GlobE E B w A) :
    Calls Tryd.prog 6 #[.int .u64 old, .string was, .int .u64 stamp, .string pay, .int .i64 nn, .int .u64 third] w fun e w' => e = .returned (.bool true) ∧ Below w.heap.size w w' := by
  have hnn : ∀ W : World, (binOp .eql 25 .nilIface .nilIface).run Tryd.prog W = .ok (.bool true) W := fun W => by kernel_rfl
  have hnn2 : ∀ W : World, (binOp .neq 25 .nilIface .nilIface).run Tryd.prog W = .ok (.bool false) W := fun W => by kernel_rfl
  obtain ⟨Z, hZ⟩ : ∃ Z : ByteArray, Hid (Z = zeroS) := ⟨_, Lib.hid rfl⟩
  have hmk : ∀ W : World, (Instr.makeSlice 50 (.int .i64 256) (.int .i64 256)).run Tryd.prog W = .ok (.slice (some ⟨W.heap.size, 0, none⟩) 256 256) (W.alloc (.cells (madeCells #[.int .u8 0] 256) 5)) :=
    fun W => run_make_row' (P := Tryd.prog) 50 5 (.int .u8 0) 1 Tryd.underlying50 (by kernel_rfl) rfl .i64 .i64 256 (by omega) (by omega) W
  have hcz : ∀ W : World, (convert 50 9 (.slice (some ⟨W.heap.size, 0, none⟩) 256 256)).run Tryd.prog (W.alloc (.cells (madeCells #[.int .u8 0] 256) 5)) = .ok (.string Z) (W.alloc (.cells (madeCells #[.int .u8 0] 256) 5)) := fun W => by rw [hZ.out]; exact conv_zero W
  have hs1 : ((stamp : Int) == 0) = false := beq_eq_false_iff_ne.2 (by omega)
  have hs2 : ((stamp : Int) == (old : Int)) = false := beq_eq_false_iff_ne.2 (by omega)
  have hs3 : ((old : Int) != 0) = true := bne_iff_ne.2 (by omega)
  obtain ⟨a, ha⟩ : ∃ a : ByteArray, Hid (a = ⟨(sealL old (cutS was).data.toList).toArray⟩) := ⟨_, Lib.hid rfl⟩
  have hal : Hid (a.data.toList = sealL old (cutS was).data.toList) := by rw [ha.out]; exact Lib.hid rfl
  have hcl : (cutS was).data.toList.length ≤ 234 := by rw [← size_list _ _ rfl]; exact cutS_size was
  have hlen : Hid (a.data.toList.length = 256) := by rw [hal.out]; exact Lib.hid (sealL_length old _ hcl)
  have htl : Hid (getN (a.data.toList.drop 248) 8 = old) := by rw [hal.out]; exact Lib.hid (sealL_tail old _ hcl ho)
  obtain ⟨b, hbb⟩ : ∃ b : ByteArray, Hid (b = ⟨(sealL stamp (cutS pay).data.toList).toArray⟩) := ⟨_, Lib.hid rfl⟩
  have hbl : Hid (b.data.toList = sealL stamp (cutS pay).data.toList) := by rw [hbb.out]; exact Lib.hid rfl
  have hcp : (cutS pay).data.toList.length ≤ 234 := by rw [← size_list _ _ rfl]; exact cutS_size pay
  have has : Hid (a.size = 256) := by rw [size_list a _ rfl]; exact hlen
  have hbs : Hid (b.size = 256) := by rw [size_list b _ rfl, hbl.out]; exact Lib.hid (sealL_length stamp _ hcp)
  obtain ⟨u, hu, hun⟩ := wrap_u64_nat nn
  obtain ⟨n, hn⟩ : ∃ n : Nat, Hid (u % 257 = n) := ⟨_, Lib.hid rfl⟩
  have hn1 : (n : Int) ≤ 256 := by have := hn.out; omega
  have hn2 : (u : Int) % 257 = (n : Int) := by have := hn.out; omega
  obtain ⟨T, hT⟩ : ∃ T : ByteArray, Hid (tornS a b n = T) := ⟨_, Lib.hid rfl⟩
  have hTl : Hid (T.data.toList = tornL a.data.toList (sealL stamp (cutS pay).data.toList) n) := by rw [← hT.out, tornS_list, hbl.out]; exact Lib.hid rfl
  have hTs : Hid (T.size = 256) := by rw [size_list T _ hTl.out]; exact Lib.hid (tornL_length _ _ n hlen.out (sealL_length stamp _ hcp) (by omega))
  have hTe : (T.toList == (b.extract 0 n ++ a.extract n a.size).toList) = true := by rw [← hT.out]; exact beq_self_eq_true _
  obtain ⟨c1, hc1⟩ : ∃ c : Bool, Hid ((openL stamp T.data.toList).isSome = c) := ⟨_, Lib.hid rfl⟩
  have he1 : (T.toList == b.toList) = c1 := by rw [← hc1.out, ByteArray.toList_eq, ByteArray.toList_eq, hTl.out, hbl.out]; exact (tear_new _ _ _ stamp n htl.out hcp hs (by omega) (by omega) (by omega)).symm
  obtain ⟨c2, hc2⟩ : ∃ c : Bool, Hid ((openL old T.data.toList).isSome = c) := ⟨_, Lib.hid rfl⟩
  have he2 : (T.toList == a.toList) = c2 := by rw [← hc2.out, ByteArray.toList_eq, ByteArray.toList_eq, hTl.out, hal.out]; exact (tear_old _ _ old stamp n hcl hcp hs ho (by omega) (by omega) (by omega)).symm
  obtain ⟨hd, hhd⟩ : ∃ h : Nat, Hid (getN T.data.toList 8 = h) := ⟨_, Lib.hid rfl⟩
  obtain ⟨tl, htt⟩ : ∃ h : Nat, Hid (getN (T.data.toList.drop 248) 8 = h) := ⟨_, Lib.hid rfl⟩
  have hhl : Hid (hd < 18446744073709551616) := by rw [← hhd.out]; exact Lib.hid (getN_lt _ 8)
  have hthird := hide fun (x : Nat) (hx : x < 18446744073709551616) (h1 : x ≠ stamp) (h2 : x ≠ old) => (show Hid ((openL x T.data.toList).isSome = false) by rw [hTl.out]; exact Lib.hid (tear_third _ _ old stamp x n htl.out hcp hs hx h1 h2 (by omega)))
  obtain ⟨o1, ho1, ho2⟩ := wrap_u64_nat ((old : Nat) + 1)
  obtain ⟨s1, hs4, hs5⟩ := wrap_u64_nat ((stamp : Nat) + 1)
  have hb1 : n ≤ b.size := by rw [hbs.out]; omega
  have hb2 : (n : Int) ≤ (b.size : Int) := by omega
  have ha1 : n ≤ a.size := by rw [has.out]; omega
  have ha2 : (n : Int) ≤ (a.size : Int) := by omega
  have ha3 : (a.size : Int) ≤ 256 := by rw [has.out]; omega
  have hb3 : (b.size : Int) ≤ 256 := by rw [hbs.out]; omega
  have HA := hide fun (W : World) (hW : GlobE E B W A) => seal_ok old ho (by omega) (cutS was) (cutS_size was) B A W hW a ha
  have HB := hide fun (W : World) (hW : GlobE E B W A) => seal_ok stamp hs hs0 (cutS pay) (cutS_size pay) B A W hW b hbb
  have HT := hide fun (W : World) => tear_ok a b T n has hbs hn1 hT W
  have HC1 := hide fun (W : World) (hW : GlobE E B W A) => counts_ok stamp hs T B A W hW c1 hc1
  have HC2 := hide fun (W : World) (hW : GlobE E B W A) => counts_ok old ho T B A W hW c2 hc2
  have HE := hide fun (W : World) => ends_ok T hTs.out W hd tl hhd htt
  have HL := Lib.hid hu
  have HO1 := Lib.hid ho1
  have HS4 := Lib.hid hs4
  have HS := Lib.hid hs
  have HX := Lib.hid hth
  have HNE := Lib.hid hne
  have HG0 := Lib.hid hG
  have HB0 : Hid (Below w.heap.size w w) := Lib.hid (Below.refl _ _)
  clear hG
  have HMW := Lib.hid hmw
  have HMP := Lib.hid hmp
  clear hs hmw hmp
  clear hn hbb hbl hcp hbs hal hlen htl has hT hTl hTs hc1 hhd htt hu ho1 hs4 hth hne ho h0 ha hcl hc2
  go_enter Tryd.func6, Tryd.ntmps6
  go_wp2_with fail
  refine (fixed_any B A _ HG0.out).mono ?_
  rintro e w1 ⟨rfl, hb⟩
  have HG1 := Lib.hid (HG0.out.on hb)
  have HB1 := Lib.hid (HB0.out.trans (hb.mono HB0.out.size))
  clear hb
  go_wp2_with fail
  refine (cut_any was HMW.out _).mono ?_
  rintro e w9 ⟨rfl, rfl⟩
  have hb := (Below.refl w1.heap.size w1).alloc (Nat.le_refl _) (.cells (madeCells #[.int .u8 0] 256) 5)
  have HG2 := Lib.hid (HG1.out.on hb)
  have HB2 := Lib.hid (HB1.out.trans (hb.mono HB1.out.size))
  clear hb hmk hcz
  generalize w1.alloc (.cells (madeCells #[.int .u8 0] 256) 5) = w2 at HG2 HB2 ⊢
  go_wp2_with fail
  refine (unhide HA _ HG2.out).mono ?_
  rintro e w3 ⟨rfl, hb⟩
  have HG3 := Lib.hid (HG2.out.on hb)
  have HB3 := Lib.hid (HB2.out.trans (hb.mono HB2.out.size))
  clear hb
  go_wp2_with fail
  refine (cut_any pay HMP.out _).mono ?_
  rintro e w9 ⟨rfl, rfl⟩
  go_wp2_with fail
  refine (unhide HB _ HG3.out).mono ?_
  rintro e w4 ⟨rfl, hb⟩
  have HG4 := Lib.hid (HG3.out.on hb)
  have HB4 := Lib.hid (HB3.out.trans (hb.mono HB3.out.size))
  clear hb
  go_wp2_with fail
  refine (unhide HT _).mono ?_
  rintro e w5 ⟨rfl, k5, rfl⟩
  have hb := bdn (Below.refl w4.heap.size w4) k5
  have HG5 := Lib.hid (HG4.out.on hb)
  have HB5 := Lib.hid (HB4.out.trans (hb.mono HB4.out.size))
  clear hb
  generalize w4.drewN k5 = w5 at HG5 HB5 ⊢
  go_wp2_with fail
  go_quiet (fail)
  have hb := bdn (Below.refl w5.heap.size w5) nq
  have HG6 := Lib.hid (HG5.out.on hb)
  have HB6 := Lib.hid (HB5.out.trans (hb.mono HB5.out.size))
  clear hb
  generalize w5.drewN nq = w6 at HG6 HB6 ⊢
  go_wp2_with fail
  refine (unhide HC1 _ HG6.out).mono ?_
  rintro e w7 ⟨rfl, hb⟩
  have HG7 := Lib.hid (HG6.out.on hb)
  have HB7 := Lib.hid (HB6.out.trans (hb.mono HB6.out.size))
  clear hb
  cases c1
  all_goals
    go_wp2_with fail
    refine (unhide HC2 _ HG7.out).mono ?_
    rintro e w8 ⟨rfl, hb⟩
    have HG8 := Lib.hid (HG7.out.on hb)
    have HB8 := Lib.hid (HB7.out.trans (hb.mono HB7.out.size))
    clear hb
    cases c2
    all_goals
      go_wp2_with fail
      refine (unhide HE _).mono ?_
      rintro e w9 ⟨rfl, k9, rfl⟩
      have hb := bdn (Below.refl w8.heap.size w8) k9
      have HG9 := Lib.hid (HG8.out.on hb)
      have HB9 := Lib.hid (HB8.out.trans (hb.mono HB8.out.size))
      clear hb
      generalize w8.drewN k9 = w9 at HG9 HB9 ⊢
      go_wp2_with fail
      go_loopw [115] (fun i wr => ∃ k : Nat, k ≤ 5 ∧ i = .int .i64 k ∧ Hid (Below (w9.heap.size + 1) (w9.alloc (.cells #[.int .u64 third, .int .u64 hd, .int .u64 1, .int .u64 o1, .int .u64 s1] 22)) wr)) (fun i _ => 5 - (intOf i).toNat)
      case atStart => exact ⟨0, by omega, rfl, Lib.hid (Below.refl _ _)⟩
      case round =>
        obtain ⟨k, hk, rfl, HBw⟩ := hrel
        have HGw := Lib.hid (HG9.out.below (((Below.refl _ w9).alloc (Nat.le_refl _) _).trans (HBw.out.mono (by simp))) HG9.out.size)
        have HBz := Lib.hid (HB9.out.trans ((((Below.refl _ w9).alloc (Nat.le_refl _) _).trans (HBw.out.mono (by simp))).mono HB9.out.size))
        by_cases hk5 : k < 5
        · obtain ⟨x, hx, hcx⟩ := cells5 third hd 1 o1 s1 k hk5 (· < 18446744073709551616) HX.out hhl.out (by omega) HO1.out HS4.out
          have hcell : wr.cell? ⟨w9.heap.size, k, none⟩ = some (.int .u64 x) := by
            rw [HBw.out.cell (p := ⟨w9.heap.size, k, none⟩) (by simp), World.cell?_alloc_at _ _ _ _ rfl]; exact hcx
          clear hcx
          have HX2 := Lib.hid hx
          clear hx
          by_cases e1 : x = stamp
          · have e2 : ((x : Int) != (stamp : Int)) = false := by rw [e1]; simp
            clear e1
            go_wp2_with fail
            go_roundw
            case rel => exact ⟨k + 1, by omega, by go_num, HBw⟩
            case measure => simp [intOf]; omega
          · have e2 : ((x : Int) != (stamp : Int)) = true := bne_iff_ne.2 (by omega)
            by_cases e3 : x = old
            · have e4 : ((x : Int) != (old : Int)) = false := by rw [e3]; simp
              clear e1 e3
              go_wp2_with fail
              go_roundw
              case rel => exact ⟨k + 1, by omega, by go_num, HBw⟩
              case measure => simp [intOf]; omega
            · have e4 : ((x : Int) != (old : Int)) = true := bne_iff_ne.2 (by omega)
              have hc := hide fun (W : World) (hW : GlobE E B W A) => counts_ok x HX2.out T B A W hW false (unhide hthird x HX2.out e1 e3)
              clear e1 e3
              go_wp2_with fail
              refine (unhide hc _ HGw.out).mono ?_
              rintro e w30 ⟨rfl, hb⟩
              have HB5 := Lib.hid (HBw.out.trans (hb.mono (by have := HBw.out.size; simpa using this)))
              clear hb HBw
              go_wp2_with fail
              go_roundw
              case rel => exact ⟨k + 1, by omega, by go_num, HB5⟩
              case measure => simp [intOf]; omega
        · have hk6 : ¬ (k : Int) < 5 := by omega
          go_wp2_with fail
          go_ret
          exact ⟨rfl, HBz.out⟩
set_option maxRecDepth 100000 in
set_option maxHeartbeats 1000000 in
theorem tear_none {E : Prop} (old : Nat) (third nn : Int) (was pay : ByteArray) (B : Nat) (A : Nat → Addr) (w : World) (hG : GlobE E B w A) :
    Calls Tryd.prog 6 #[.int .u64 old, .string was, .int .u64 0, .string pay, .int .i64 nn, .int .u64 third] w fun e w' => e = .returned (.bool true) ∧ Below w.heap.size w w' := by
  have HG0 := Lib.hid hG
  have HB0 : Hid (Below w.heap.size w w) := Lib.hid (Below.refl _ _)
  clear hG
  go_enter Tryd.func6, Tryd.ntmps6
  go_wp2_with fail
  refine (fixed_any B A _ HG0.out).mono ?_
  rintro e w1 ⟨rfl, hb⟩
  have HG1 := Lib.hid (HG0.out.on hb)
  have HB1 := Lib.hid (HB0.out.trans (hb.mono HB0.out.size))
  clear hb
  go_wp2_with fail
  go_ret
  exact ⟨rfl, HB1.out⟩
set_option maxRecDepth 100000 in
set_option maxHeartbeats 1000000 in
theorem tear_same {E : Prop} (old : Nat) (third nn : Int) (was pay : ByteArray) (h0 : 0 < old) (B : Nat) (A : Nat → Addr) (w : World) (hG : GlobE E B w A) :
    Calls Tryd.prog 6 #[.int .u64 old, .string was, .int .u64 old, .string pay, .int .i64 nn, .int .u64 third] w fun e w' => e = .returned (.bool true) ∧ Below w.heap.size w w' := by
  have hs1 : ((old : Int) == 0) = false := beq_eq_false_iff_ne.2 (by omega)
  have hs2 : ((old : Int) == (old : Int)) = true := beq_iff_eq.2 rfl
  have HG0 := Lib.hid hG
  have HB0 : Hid (Below w.heap.size w w) := Lib.hid (Below.refl _ _)
  clear hG
  go_enter Tryd.func6, Tryd.ntmps6
  go_wp2_with fail
  refine (fixed_any B A _ HG0.out).mono ?_
  rintro e w1 ⟨rfl, hb⟩
  have HG1 := Lib.hid (HG0.out.on hb)
  have HB1 := Lib.hid (HB0.out.trans (hb.mono HB0.out.size))
  clear hb
  go_wp2_with fail
  go_ret
  exact ⟨rfl, HB1.out⟩
theorem tear_law {E : Prop} (old stamp third : Nat) (nn : Int) (was pay : ByteArray) (ho : old < 18446744073709551616) (hs : stamp < 18446744073709551616) (hth : third < 18446744073709551616) (hmw : was.size ≤ maxLen) (hmp : pay.size ≤ maxLen) (B : Nat) (A : Nat → Addr) (w : World) (hG : GlobE E B w A) :
    Calls Tryd.prog 6 #[.int .u64 old, .string was, .int .u64 stamp, .string pay, .int .i64 nn, .int .u64 third] w fun e w' => e = .returned (.bool true) ∧ Below w.heap.size w w' := by
  by_cases h1 : stamp = 0
  · subst h1
    exact tear_none old third nn was pay B A w hG
  · by_cases h2 : stamp = old
    · subst h2
      exact tear_same stamp third nn was pay (by omega) B A w hG
    · by_cases h3 : old = 0
      · subst h3
        exact tear_zero stamp third nn was pay hs hth (by omega) h2 hmw hmp B A w hG
      · exact tear_pos old stamp third nn was pay ho hs hth (by omega) (by omega) h2 hmw hmp B A w hG
end Go.Proofs.YtffmekcpkilkoaaDoor
