/-
  Walks over statements of layer 7: tears one behind the other.
-/
import Derived.Test.YtffmekcpkilkoaaDoorTear
namespace Go.Proofs.YtffmekcpkilkoaaDoor
open Go.RowKit

theorem tears_new (la p : List UInt8) (last n : Nat) (hla : la.length = 256) (ht : getN (la.drop 248) 8 < last) (hp : p.length ≤ 234) (hs : last < 18446744073709551616) (hn : n ≤ 256) :
    getN ((tornL la (sealL last p) n).drop 248) 8 ≤ last ∧ (openL last (tornL la (sealL last p) n)).isSome = (tornL la (sealL last p) n == sealL last p) := by
  have hlb := sealL_length last p hp
  obtain ⟨h1, h2⟩ := torn_tail_le la (sealL last p) n last hla hlb hn (sealL_tail last p hp hs) ht
  refine ⟨h1, ?_⟩
  by_cases h : tornL la (sealL last p) n = sealL last p
  · rw [h, beq_self_eq_true, (openL_iff last _ p).2 ⟨by omega, hp, rfl⟩]
    rfl
  · rw [beq_eq_false_iff_ne.2 h]
    apply isSome_false
    intro hc
    obtain ⟨_, q, hq, e⟩ := (openL_isSome _ _).1 hc
    apply h
    apply h2
    rw [e, sealL_tail last q hq hs]
theorem open_above (l : List UInt8) (last x : Nat) (ht : getN (l.drop 248) 8 ≤ last) (hx : x < 18446744073709551616) (h : last < x) : (openL x l).isSome = false := by
  apply isSome_false
  intro hc
  obtain ⟨_, q, hq, e⟩ := (openL_isSome _ _).1 hc
  rw [e, sealL_tail x q hq hx] at ht
  omega
theorem cells6 (v0 v1 v2 v3 v4 v5 : Nat) (k : Nat) (hk : k < 6) (P : Nat → Prop) (h0 : P v0) (h1 : P v1) (h2 : P v2) (h3 : P v3) (h4 : P v4) (h5 : P v5) :
    ∃ x : Nat, P x ∧ (#[.int .u64 v0, .int .u64 v1, .int .u64 v2, .int .u64 v3, .int .u64 v4, .int .u64 v5] : Array Value)[k]? = some (.int .u64 x) := by
  match k, hk with
  | 0, _ => exact ⟨v0, h0, rfl⟩
  | 1, _ => exact ⟨v1, h1, rfl⟩
  | 2, _ => exact ⟨v2, h2, rfl⟩
  | 3, _ => exact ⟨v3, h3, rfl⟩
  | 4, _ => exact ⟨v4, h4, rfl⟩
  | 5, _ => exact ⟨v5, h5, rfl⟩
theorem max_one (M : Nat) : ∃ m : Nat, max (M : Int) 1 = (m : Int) ∧ 1 ≤ m := ⟨max M 1, by omega, by omega⟩
theorem wrap_rest (L : Nat) (h : L < 18446744073709551616) : ∃ R : Nat, IntKind.u64.wrap (18446744073709551615 - (L : Int)) = (R : Int) ∧ R + L = 18446744073709551615 :=
  ⟨18446744073709551615 - L, by rw [IntKind.wrap_u64]; omega, by omega⟩
theorem wrap_sum (L m R : Nat) (h : m ≤ R) (hR : R + L = 18446744073709551615) : ∃ L2 : Nat, IntKind.u64.wrap ((L : Int) + (m : Int)) = (L2 : Int) ∧ L2 = L + m ∧ L2 < 18446744073709551616 :=
  ⟨L + m, by rw [IntKind.wrap_u64]; omega, rfl, by omega⟩
theorem clamp_256 (x : Int) : ∃ n : Nat, max 0 (min x 256) = (n : Int) ∧ (n : Int) ≤ 256 := ⟨(max 0 (min x 256)).toNat, by omega, by omega⟩
/-- The writes that came in, cell by cell. -/
structure WritesAt (w : World) (b off n : Nat) : Prop where
  more : ∀ i, i < n → ∃ m : Nat, m < 18446744073709551616 ∧ w.cell? ⟨b, off + i * 3, none⟩ = some (.int .u64 m)
  pay : ∀ i, i < n → ∃ s : ByteArray, s.size ≤ maxLen ∧ w.cell? ⟨b, off + i * 3 + 1, none⟩ = some (.string s)
  bytes : ∀ i, i < n → ∃ x : Int, w.cell? ⟨b, off + i * 3 + 2, none⟩ = some (.int .i64 x)
theorem WritesAt.below {w w' : World} {b off n B : Nat} (h : WritesAt w b off n) (hb : Below B w w') (hB : b < B) : WritesAt w' b off n :=
  ⟨fun i hi => by obtain ⟨m, h1, h2⟩ := h.more i hi; exact ⟨m, h1, by rw [hb.cell (p := ⟨b, off + i * 3, none⟩) hB]; exact h2⟩,
   fun i hi => by obtain ⟨m, h1, h2⟩ := h.pay i hi; exact ⟨m, h1, by rw [hb.cell (p := ⟨b, off + i * 3 + 1, none⟩) hB]; exact h2⟩,
   fun i hi => by obtain ⟨m, h2⟩ := h.bytes i hi; exact ⟨m, by rw [hb.cell (p := ⟨b, off + i * 3 + 2, none⟩) hB]; exact h2⟩⟩
set_option maxRecDepth 100000 in
set_option maxHeartbeats 8000000 in
theorem tears_some {E : Prop} (b off n cap probe w0 : Nat) (hb : b < w0) (hn : n ≤ 9223372036854775807) (hpr : probe < 18446744073709551616) (B : Nat) (A : Nat → Addr) (w : World) (hw0 : w0 ≤ w.heap.size) (hG : GlobE E B w A) (hA : WritesAt w b off n) :
    Calls Tryd.prog 7 #[.slice (some ⟨b, off, none⟩) n cap, .int .u64 probe] w fun e w' => e = .returned (.bool true) ∧ Below w.heap.size w w' := by
  have hnn : ∀ W : World, (binOp .eql 25 .nilIface .nilIface).run Tryd.prog W = .ok (.bool true) W := fun W => by kernel_rfl
  have hnn2 : ∀ W : World, (binOp .neq 25 .nilIface .nilIface).run Tryd.prog W = .ok (.bool false) W := fun W => by kernel_rfl
  obtain ⟨Z, hZ⟩ : ∃ Z : ByteArray, Hid (Z = zeroS) := ⟨_, Lib.hid rfl⟩
  have hmk : ∀ W : World, (Instr.makeSlice 50 (.int .i64 256) (.int .i64 256)).run Tryd.prog W = .ok (.slice (some ⟨W.heap.size, 0, none⟩) 256 256) (W.alloc (.cells (madeCells #[.int .u8 0] 256) 5)) :=
    fun W => run_make_row' (P := Tryd.prog) 50 5 (.int .u8 0) 1 Tryd.underlying50 (by kernel_rfl) rfl .i64 .i64 256 (by omega) (by omega) W
  have hcz : ∀ W : World, (convert 50 9 (.slice (some ⟨W.heap.size, 0, none⟩) 256 256)).run Tryd.prog (W.alloc (.cells (madeCells #[.int .u8 0] 256) 5)) = .ok (.string Z) (W.alloc (.cells (madeCells #[.int .u8 0] 256) 5)) := fun W => by rw [hZ.out]; exact conv_zero W
  have hGw := hide fun (W : World) (h : Below w.heap.size w W) => hG.on h
  have HG0 := Lib.hid hG
  have HB0 : Hid (Below w.heap.size w w) := Lib.hid (Below.refl _ _)
  clear hG
  have HA := Lib.hid hA
  have HP := Lib.hid hpr
  have hbw : b < w.heap.size := by omega
  clear hA hpr hb hw0
  have hZs : Hid (Z.size = 256) := by rw [hZ.out]; exact Lib.hid zeroS_size
  have hZt : Hid (getN (Z.data.toList.drop 248) 8 = 0) := by rw [hZ.out, zeroS_list, rep_drop]; exact Lib.hid (zeros_tail _ _)
  go_enter Tryd.func7, Tryd.ntmps7
  go_wp2_with fail
  refine (fixed_any B A _ HG0.out).mono ?_
  rintro e w1 ⟨rfl, hb⟩
  have HG1 := Lib.hid (HG0.out.on hb)
  have HB1 := Lib.hid (HB0.out.trans (hb.mono HB0.out.size))
  clear hb
  go_wp2_with fail
  have hb := (Below.refl w1.heap.size w1).alloc (Nat.le_refl _) (.cells (madeCells #[.int .u8 0] 256) 5)
  have HG2 := Lib.hid (HG1.out.on hb)
  have HB2 := Lib.hid (HB1.out.trans (hb.mono HB1.out.size))
  clear hb hmk hcz
  generalize w1.alloc (.cells (madeCells #[.int .u8 0] 256) 5) = w2 at HG2 HB2 ⊢
  clear HG1 HB1 HG0 HB0
  go_loopw [5, 6, 23] (fun st la i wr => ∃ (k : Nat) (S : ByteArray) (L : Nat), k ≤ n ∧ i = .int .i64 k ∧ st = .string S ∧ la = .int .u64 L ∧ Hid (L < 18446744073709551616) ∧ Hid (S.size = 256) ∧ Hid (getN (S.data.toList.drop 248) 8 ≤ L) ∧ Hid (Below w.heap.size w wr)) (fun _ _ i _ => n - (intOf i).toNat)
  case atStart => exact ⟨0, Z, 0, by omega, rfl, rfl, rfl, Lib.hid (by omega), hZs, Lib.hid (by rw [hZt.out]; exact Nat.le_refl _), HB2⟩
  case round =>
    obtain ⟨k, S, L, hk, rfl, rfl, rfl, hL, hS, hSt, HB3⟩ := hrel
    have HG3 := Lib.hid (unhide hGw wr HB3.out)
    clear HB2 HG2 hZs hZt hZ
    by_cases hkn : k < n
    · have hkn2 : (k : Int) < (n : Int) := by omega
      have HAw := Lib.hid (HA.out.below HB3.out hbw)
      obtain ⟨M, hM, hcM⟩ := HAw.out.more k hkn
      obtain ⟨PL, hPL, hcP⟩ := HAw.out.pay k hkn
      obtain ⟨NB, hcN⟩ := HAw.out.bytes k hkn
      have HM := Lib.hid hM
      have HPL := Lib.hid hPL
      clear hM hPL HAw
      obtain ⟨m, hm, hm1⟩ := max_one M
      obtain ⟨R, hR, hR1⟩ := wrap_rest L hL.out
      have HR1 := Lib.hid hR1
      clear hR1
      by_cases hgt : R < m
      · have hgt2 : (R : Int) < (m : Int) := by omega
        clear hgt
        go_wp2_with fail
        go_ret
        exact ⟨rfl, HB3.out.alloc HB3.out.size _⟩
      · have hgt2 : (m : Int) ≤ (R : Int) := by omega
        obtain ⟨L2, hL2, hL3, hL4⟩ := wrap_sum L m R (by omega) HR1.out
        have HL2 : Hid (L < L2) := Lib.hid (by omega)
        have HL4 := Lib.hid hL4
        have HL0 : Hid (0 < L2) := Lib.hid (by omega)
        clear hgt hL3 hL4 hm1 HR1
        obtain ⟨nb, hnb, hnb1⟩ := clamp_256 NB
        obtain ⟨b1, hb1⟩ : ∃ b : ByteArray, Hid (b = ⟨(sealL L2 (cutS PL).data.toList).toArray⟩) := ⟨_, Lib.hid rfl⟩
        have hbl : Hid (b1.data.toList = sealL L2 (cutS PL).data.toList) := by rw [hb1.out]; exact Lib.hid rfl
        have hcp : (cutS PL).data.toList.length ≤ 234 := by rw [← size_list _ _ rfl]; exact cutS_size PL
        have hbs : Hid (b1.size = 256) := by rw [size_list b1 _ rfl, hbl.out]; exact Lib.hid (sealL_length L2 _ hcp)
        have hla : S.data.toList.length = 256 := by rw [← size_list S _ rfl]; exact hS.out
        obtain ⟨T, hT⟩ : ∃ T : ByteArray, Hid (tornS S b1 nb = T) := ⟨_, Lib.hid rfl⟩
        have hTl : Hid (T.data.toList = tornL S.data.toList (sealL L2 (cutS PL).data.toList) nb) := by rw [← hT.out, tornS_list, hbl.out]; exact Lib.hid rfl
        have hTs : Hid (T.size = 256) := by rw [size_list T _ hTl.out]; exact Lib.hid (tornL_length _ _ nb hla (sealL_length L2 _ hcp) (by omega))
        obtain ⟨htl, hto⟩ := tears_new S.data.toList (cutS PL).data.toList L2 nb hla (Nat.lt_of_le_of_lt hSt.out HL2.out) hcp HL4.out (by omega)
        rw [← hTl.out] at htl hto
        have HTL := Lib.hid htl
        obtain ⟨c1, hc1⟩ : ∃ c : Bool, Hid ((openL L2 T.data.toList).isSome = c) := ⟨_, Lib.hid rfl⟩
        have he1 : (T.toList == b1.toList) = c1 := by rw [← hc1.out, ByteArray.toList_eq, ByteArray.toList_eq, hbl.out]; exact hto.symm
        obtain ⟨hd, hhd⟩ : ∃ h : Nat, Hid (getN T.data.toList 8 = h) := ⟨_, Lib.hid rfl⟩
        obtain ⟨tl, htt⟩ : ∃ h : Nat, Hid (getN (T.data.toList.drop 248) 8 = h) := ⟨_, Lib.hid rfl⟩
        have hhl : Hid (hd < 18446744073709551616) := by rw [← hhd.out]; exact Lib.hid (getN_lt _ 8)
        have htl2 : Hid (tl < 18446744073709551616) := by rw [← htt.out]; exact Lib.hid (getN_lt _ 8)
        have htle : (tl : Int) ≤ (L2 : Int) := by have := HTL.out; rw [htt.out] at this; omega
        have htle2 : tl ≤ L2 := by omega
        have htle3 : decide (L2 < tl) = false := decide_eq_false (by omega)
        have habove := hide fun (x : Nat) (hx : x < 18446744073709551616) (h : L2 < x) => (show Hid ((openL x T.data.toList).isSome = false) from Lib.hid (open_above _ L2 x HTL.out hx h))
        obtain ⟨o1, ho1, ho2⟩ := wrap_u64_nat ((L2 : Int) + 1)
        obtain ⟨o2, ho3, ho4⟩ := wrap_u64_nat ((L2 : Int) + 256)
        have HO1 := Lib.hid ho1
        have HO3 := Lib.hid ho3
        have HBs := hide fun (W : World) (hW : GlobE E B W A) => seal_ok L2 HL4.out HL0.out (cutS PL) (cutS_size PL) B A W hW b1 hb1
        have HT := hide fun (W : World) => tear_ok S b1 T nb hS hbs hnb1 hT W
        have HC1 := hide fun (W : World) (hW : GlobE E B W A) => counts_ok L2 HL4.out T B A W hW c1 hc1
        have HE := hide fun (W : World) => ends_ok T hTs.out W hd tl hhd htt
        clear hcp hla htl hto ho1 ho3 hhd htt hb1 hbl hbs hT hTl hc1
        go_wp2_with fail
        refine (cut_any PL HPL.out _).mono ?_
        rintro e w9 ⟨rfl, rfl⟩
        have hb := (Below.refl wr.heap.size wr).alloc (Nat.le_refl _) (.cells #[.int .u64 (M : Int), .string PL, .int .i64 NB] 58)
        have HG4 := Lib.hid (HG3.out.on hb)
        have HB4 := Lib.hid (HB3.out.trans (hb.mono HB3.out.size))
        clear hb
        have hcB : (wr.alloc (.cells #[.int .u64 (M : Int), .string PL, .int .i64 NB] 58)).cell? ⟨wr.heap.size, 2, none⟩ = some (.int .i64 NB) := by rw [World.cell?_alloc_at _ _ _ _ rfl]; rfl
        have hgl : Hid (wr.heap.size < (wr.alloc (.cells #[.int .u64 (M : Int), .string PL, .int .i64 NB] 58)).heap.size) := Lib.hid (by simp)
        clear hcM hcP hcN
        generalize wr.alloc (.cells #[.int .u64 (M : Int), .string PL, .int .i64 NB] 58) = w4 at HG4 HB4 hcB hgl ⊢
        go_wp2_with fail
        refine (unhide HBs _ HG4.out).mono ?_
        rintro e w5 ⟨rfl, hb⟩
        have HG5 := Lib.hid (HG4.out.on hb)
        have HB5 := Lib.hid (HB4.out.trans (hb.mono HB4.out.size))
        have hcB2 := (hb.cell (p := ⟨wr.heap.size, 2, none⟩) hgl.out).trans hcB
        clear hcB
        clear hb
        go_wp2_with fail
        refine (unhide HT _).mono ?_
        rintro e w6 ⟨rfl, k6, rfl⟩
        have hb := bdn (Below.refl w5.heap.size w5) k6
        have HG6 := Lib.hid (HG5.out.on hb)
        have HB6 := Lib.hid (HB5.out.trans (hb.mono HB5.out.size))
        clear hb
        generalize w5.drewN k6 = w6 at HG6 HB6 ⊢
        go_wp2_with fail
        refine (unhide HC1 _ HG6.out).mono ?_
        rintro e w7 ⟨rfl, hb⟩
        have HG7 := Lib.hid (HG6.out.on hb)
        have HB7 := Lib.hid (HB6.out.trans (hb.mono HB6.out.size))
        clear hb
        cases c1
        all_goals
          go_wp2_with fail
          refine (unhide HE _).mono ?_
          rintro e w8 ⟨rfl, k8, rfl⟩
          have hb := bdn (Below.refl w7.heap.size w7) k8
          have HG8 := Lib.hid (HG7.out.on hb)
          have HB8 := Lib.hid (HB7.out.trans (hb.mono HB7.out.size))
          clear hb
          generalize w7.drewN k8 = w8 at HG8 HB8 ⊢
          go_wp2_with fail
          go_loopw [89] (fun i wx => ∃ j : Nat, j ≤ 6 ∧ i = .int .i64 j ∧ Hid (Below (w8.heap.size + 1) (w8.alloc (.cells #[.int .u64 probe, .int .u64 hd, .int .u64 tl, .int .u64 o1, .int .u64 o2, .int .u64 18446744073709551615] 22)) wx)) (fun i _ => 6 - (intOf i).toNat)
          case atStart => exact ⟨0, by omega, rfl, Lib.hid (Below.refl _ _)⟩
          case round =>
            obtain ⟨j, hj, rfl, HBw⟩ := hrel
            have HGw := Lib.hid (HG8.out.below (((Below.refl _ w8).alloc (Nat.le_refl _) _).trans (HBw.out.mono (by simp))) HG8.out.size)
            have HBz := Lib.hid (HB8.out.trans ((((Below.refl _ w8).alloc (Nat.le_refl _) _).trans (HBw.out.mono (by simp))).mono HB8.out.size))
            by_cases hj6 : j < 6
            · obtain ⟨x, hx, hcx⟩ := cells6 probe hd tl o1 o2 18446744073709551615 j hj6 (· < 18446744073709551616) HP.out hhl.out htl2.out HO1.out HO3.out (by omega)
              have hcell : wr.cell? ⟨w8.heap.size, j, none⟩ = some (.int .u64 x) := by
                rw [HBw.out.cell (p := ⟨w8.heap.size, j, none⟩) (by simp), World.cell?_alloc_at _ _ _ _ rfl]; exact hcx
              clear hcx
              have HX2 := Lib.hid hx
              clear hx
              by_cases e1 : L2 < x
              · have e2 : (L2 : Int) < (x : Int) := by omega
                have hc := hide fun (W : World) (hW : GlobE E B W A) => counts_ok x HX2.out T B A W hW false (unhide habove x HX2.out e1)
                clear e1
                go_wp2_with fail
                refine (unhide hc _ HGw.out).mono ?_
                rintro e w30 ⟨rfl, hb⟩
                have HB5 := Lib.hid (HBw.out.trans (hb.mono (by have := HBw.out.size; simpa using this)))
                clear hb HBw
                go_wp2_with fail
                go_roundw
                case rel => exact ⟨j + 1, by omega, by go_num, HB5⟩
                case measure => simp [intOf]; omega
              · have e2 : ¬ (L2 : Int) < (x : Int) := by omega
                clear e1
                go_wp2_with fail
                go_roundw
                case rel => exact ⟨j + 1, by omega, by go_num, HBw⟩
                case measure => simp [intOf]; omega
            · have hj7 : ¬ (j : Int) < 6 := by omega
              go_wp2_with fail
              go_roundw
              case rel => exact ⟨k + 1, T, L2, by omega, by go_num, rfl, rfl, HL4, hTs, HTL, HBz⟩
              case measure => simp [intOf]; omega
    · have hkn2 : ¬ (k : Int) < (n : Int) := by omega
      go_wp2_with fail
      go_ret
      exact ⟨rfl, HB3.out⟩
set_option maxRecDepth 100000 in
set_option maxHeartbeats 1000000 in
theorem tears_zero {E : Prop} (ad : Option Addr) (cap : Nat) (probe : Int) (B : Nat) (A : Nat → Addr) (w : World) (hG : GlobE E B w A) :
    Calls Tryd.prog 7 #[.slice ad 0 cap, .int .u64 probe] w fun e w' => e = .returned (.bool true) ∧ Below w.heap.size w w' := by
  obtain ⟨Z, hZ⟩ : ∃ Z : ByteArray, Hid (Z = zeroS) := ⟨_, Lib.hid rfl⟩
  have hmk : ∀ W : World, (Instr.makeSlice 50 (.int .i64 256) (.int .i64 256)).run Tryd.prog W = .ok (.slice (some ⟨W.heap.size, 0, none⟩) 256 256) (W.alloc (.cells (madeCells #[.int .u8 0] 256) 5)) :=
    fun W => run_make_row' (P := Tryd.prog) 50 5 (.int .u8 0) 1 Tryd.underlying50 (by kernel_rfl) rfl .i64 .i64 256 (by omega) (by omega) W
  have hcz : ∀ W : World, (convert 50 9 (.slice (some ⟨W.heap.size, 0, none⟩) 256 256)).run Tryd.prog (W.alloc (.cells (madeCells #[.int .u8 0] 256) 5)) = .ok (.string Z) (W.alloc (.cells (madeCells #[.int .u8 0] 256) 5)) := fun W => by rw [hZ.out]; exact conv_zero W
  have HG0 := Lib.hid hG
  have HB0 : Hid (Below w.heap.size w w) := Lib.hid (Below.refl _ _)
  clear hG
  go_enter Tryd.func7, Tryd.ntmps7
  go_wp2_with fail
  refine (fixed_any B A _ HG0.out).mono ?_
  rintro e w1 ⟨rfl, hb⟩
  have HG1 := Lib.hid (HG0.out.on hb)
  have HB1 := Lib.hid (HB0.out.trans (hb.mono HB0.out.size))
  clear hb
  go_wp2_with fail
  have hb := (Below.refl w1.heap.size w1).alloc (Nat.le_refl _) (.cells (madeCells #[.int .u8 0] 256) 5)
  have HB2 := Lib.hid (HB1.out.trans (hb.mono HB1.out.size))
  clear hb hmk hcz
  generalize w1.alloc (.cells (madeCells #[.int .u8 0] 256) 5) = w2 at HB2 ⊢
  go_loopw [23] (fun i wr => i = .int .i64 0 ∧ Hid (Below w.heap.size w wr)) (fun _ _ => 0)
  case atStart => exact ⟨rfl, HB2⟩
  case round =>
    obtain ⟨rfl, HB3⟩ := hrel
    go_wp2_with fail
    go_ret
    exact ⟨rfl, HB3.out⟩
end Go.Proofs.YtffmekcpkilkoaaDoor
