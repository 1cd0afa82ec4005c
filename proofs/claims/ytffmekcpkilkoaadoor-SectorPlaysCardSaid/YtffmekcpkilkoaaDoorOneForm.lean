/-
  Walks over statements of layer 7: one form.
-/
import Derived.Test.YtffmekcpkilkoaaDoorLaws
namespace Go.Proofs.YtffmekcpkilkoaaDoor
open Go.RowKit

theorem num_any (B : Nat) (A : Nat → Addr) (w : World) (h : Glob B w A) (k : Nat) (n : Int) (hk : k < 37) (hn : (k : Int) + 1 = n) :
    Calls Tryd.prog 10 #[.iface 70 (.pointer (some (A k)))] w fun e w' => e = .returned (.int .i64 n) ∧ Below w.heap.size w w' := num_of k n hk hn B A w (h.errs trivial)
theorem str_back (s : ByteArray) : (⟨s.data.toList.toArray⟩ : ByteArray) = s := Go.WideShapes.bytes_inj (by simp)
/-- Seal of a payload that may be, in a word. -/
theorem seal_ok {E : Prop} (stamp : Nat) (hs : stamp < 18446744073709551616) (hs0 : 0 < stamp) (s : ByteArray) (hp : s.size ≤ 234) (B : Nat) (A : Nat → Addr) (w : World) (hG : GlobE E B w A) (T : ByteArray) (hT : Hid (T = ⟨(sealL stamp s.data.toList).toArray⟩)) :
    Calls Tryd.prog 9 #[.int .u64 stamp, .string s] w fun e w' => e = .returned (.tuple #[.string T, .nilIface]) ∧ Below w.heap.size w w' := by
  rw [hT.out]
  exact seal_yes stamp hs hs0 s _ rfl hp w hG.nib hG.gH
/-- What Open answers. -/
def openS (stamp : Nat) (s : ByteArray) : ByteArray := ⟨((openL stamp s.data.toList).getD []).toArray⟩
theorem open_ok {E : Prop} (stamp : Nat) (hst : stamp < 18446744073709551616) (s : ByteArray) (B : Nat) (A : Nat → Addr) (w : World) (hG : GlobE E B w A) (q : ByteArray) (b : Bool) (hq : Hid (openS stamp s = q)) (hb : Hid ((openL stamp s.data.toList).isSome = b)) :
    Calls Tryd.prog 11 #[.int .u64 stamp, .string s] w fun e w' => e = .returned (.tuple #[.string q, .bool b]) ∧ Below w.heap.size w w' := by
  obtain ⟨h1, h2⟩ := open_any stamp hst s _ rfl w hG.nib hG.gH
  have hq' := hq.out
  have hb' := hb.out
  unfold openS at hq'
  cases e : openL stamp s.data.toList with
  | none =>
    rw [e] at hq' hb'
    subst hq' hb'
    exact h2 e
  | some p =>
    rw [e] at hq' hb'
    subst hq' hb'
    exact h1 p e
theorem open_of_seal (stamp : Nat) (hs0 : 0 < stamp) (s T : ByteArray) (hp : s.size ≤ 234) (hT : Hid (T = ⟨(sealL stamp s.data.toList).toArray⟩)) : Hid (openS stamp T = s) ∧ Hid ((openL stamp T.data.toList).isSome = true) := by
  have hl : T.data.toList = sealL stamp s.data.toList := by rw [hT.out]
  have ho : openL stamp T.data.toList = some s.data.toList := (openL_iff _ _ _).2 ⟨by omega, by have := size_list s _ rfl; omega, hl⟩
  refine ⟨?_, ?_⟩
  · have : openS stamp T = s := by unfold openS; rw [ho]; exact str_back s
    exact Lib.hid this
  · have : (openL stamp T.data.toList).isSome = true := by rw [ho]; rfl
    exact Lib.hid this
theorem openL_other (stamp other : Nat) (hs : stamp < 18446744073709551616) (ho : other < 18446744073709551616) (p : List UInt8) (hne : other ≠ stamp) : openL other (sealL stamp p) = none := by
  rw [openL_none]
  rintro ⟨_, q, _, h2⟩
  have h3 := congrArg (getN · 8) h2
  simp only [sealL_head _ _ hs, sealL_head _ _ ho] at h3
  exact hne h3.symm
theorem seal_of_open (stamp : Nat) (raw : ByteArray) (h : (openL stamp raw.data.toList).isSome = true) : (openS stamp raw).size ≤ 234 ∧ raw = ⟨(sealL stamp (openS stamp raw).data.toList).toArray⟩ := by
  obtain ⟨p, hp⟩ := Option.isSome_iff_exists.1 h
  obtain ⟨_, h2, h3⟩ := (openL_iff _ _ _).1 hp
  have e : openS stamp raw = ⟨p.toArray⟩ := by unfold openS; rw [hp]; rfl
  rw [e]
  refine ⟨by show p.toArray.size ≤ 234; simpa using h2, ?_⟩
  apply Go.WideShapes.bytes_inj
  rw [h3]
theorem openS_none (stamp : Nat) (raw : ByteArray) (h : (openL stamp raw.data.toList).isSome = false) : openS stamp raw = ⟨#[]⟩ := by
  unfold openS
  rw [Option.isSome_eq_false_iff, Option.isNone_iff_eq_none] at h
  rw [h]
  rfl
set_option maxRecDepth 100000 in
set_option maxHeartbeats 1000000 in
theorem oneform_zero (other : Int) (s raw : ByteArray) (B : Nat) (A : Nat → Addr) (w : World) (hG : Glob B w A) :
    Calls Tryd.prog 3 #[.int .u64 0, .int .u64 other, .string s, .string raw] w fun e w' => e = .returned (.bool true) ∧ Below w.heap.size w w' := by
  have HG0 := Lib.hid hG
  have HB0 : Hid (Below w.heap.size w w) := Lib.hid (Below.refl _ _)
  clear hG
  go_enter Tryd.func3, Tryd.ntmps3
  go_wp2_with fail
  refine (fixed_any B A _ HG0.out).mono ?_
  rintro e w1 ⟨rfl, hb⟩
  have HG1 := Lib.hid (HG0.out.on hb)
  have HB1 := Lib.hid (HB0.out.trans (hb.mono HB0.out.size))
  clear hb
  go_wp2_with fail
  refine (seal_zero s _ _ HG1.out.eRange).mono ?_
  rintro e w2 ⟨rfl, hb⟩
  have HG2 := Lib.hid (HG1.out.on hb)
  have HB2 := Lib.hid (HB1.out.trans (hb.mono HB1.out.size))
  clear hb
  go_wp2_with fail
  refine (num_any B A _ HG2.out 5 6 (by omega) (by omega)).mono ?_
  rintro e w3 ⟨rfl, hb⟩
  have HG3 := Lib.hid (HG2.out.on hb)
  have HB3 := Lib.hid (HB2.out.trans (hb.mono HB2.out.size))
  clear hb
  go_wp2_with fail
  go_ret
  exact ⟨rfl, HB3.out⟩
set_option maxRecDepth 100000 in
set_option maxHeartbeats 1000000 in
theorem oneform_long (stamp : Nat) (hs0 : 0 < stamp) (other : Int) (s raw : ByteArray) (hl : 234 < s.size) (B : Nat) (A : Nat → Addr) (w : World) (hG : Glob B w A) :
    Calls Tryd.prog 3 #[.int .u64 stamp, .int .u64 other, .string s, .string raw] w fun e w' => e = .returned (.bool true) ∧ Below w.heap.size w w' := by
  have h1 : ((stamp : Int) == 0) = false := beq_eq_false_iff_ne.2 (by omega)
  have h2 : (234 : Int) < (s.size : Int) := by omega
  have HG0 := Lib.hid hG
  have HB0 : Hid (Below w.heap.size w w) := Lib.hid (Below.refl _ _)
  clear hG
  go_enter Tryd.func3, Tryd.ntmps3
  go_wp2_with fail
  refine (fixed_any B A _ HG0.out).mono ?_
  rintro e w1 ⟨rfl, hb⟩
  have HG1 := Lib.hid (HG0.out.on hb)
  have HB1 := Lib.hid (HB0.out.trans (hb.mono HB0.out.size))
  clear hb
  go_wp2_with fail
  refine (seal_long stamp hs0 s hl _ _ HG1.out.eLimit).mono ?_
  rintro e w2 ⟨rfl, hb⟩
  have HG2 := Lib.hid (HG1.out.on hb)
  have HB2 := Lib.hid (HB1.out.trans (hb.mono HB1.out.size))
  clear hb
  go_wp2_with fail
  refine (num_any B A _ HG2.out 2 3 (by omega) (by omega)).mono ?_
  rintro e w3 ⟨rfl, hb⟩
  have HG3 := Lib.hid (HG2.out.on hb)
  have HB3 := Lib.hid (HB2.out.trans (hb.mono HB2.out.size))
  clear hb
  go_wp2_with fail
  go_ret
  exact ⟨rfl, HB3.out⟩
set_option maxRecDepth 100000 in
set_option maxHeartbeats 4000000 in
theorem oneform_yes (stamp other : Nat) (hs : stamp < 18446744073709551616) (ho : other < 18446744073709551616) (hs0 : 0 < stamp) (s raw : ByteArray) (hp : s.size ≤ 234) (B : Nat) (A : Nat → Addr) (w : World) (hG : Glob B w A) :
    Calls Tryd.prog 3 #[.int .u64 stamp, .int .u64 other, .string s, .string raw] w fun e w' => e = .returned (.bool true) ∧ Below w.heap.size w w' := by
  have hnn : ∀ W : World, (binOp .eql 25 .nilIface .nilIface).run Tryd.prog W = .ok (.bool true) W := fun W => by kernel_rfl
  have hnn2 : ∀ W : World, (binOp .neq 25 .nilIface .nilIface).run Tryd.prog W = .ok (.bool false) W := fun W => by kernel_rfl
  have h1 : ((stamp : Int) == 0) = false := beq_eq_false_iff_ne.2 (by omega)
  have h2 : ¬ (234 : Int) < (s.size : Int) := by omega
  obtain ⟨T, hT⟩ : ∃ T : ByteArray, Hid (T = ⟨(sealL stamp s.data.toList).toArray⟩) := ⟨_, Lib.hid rfl⟩
  obtain ⟨hq1, hb1⟩ := open_of_seal stamp hs0 s T hp hT
  obtain ⟨q2, hq2⟩ : ∃ q, Hid (openS other T = q) := ⟨_, Lib.hid rfl⟩
  have hb2 : Hid ((openL other T.data.toList).isSome = ((other : Int) == (stamp : Int))) := by
    by_cases e : other = stamp
    · subst e
      have : ((other : Int) == (other : Int)) = true := beq_iff_eq.2 rfl
      rw [this]
      exact hb1
    · have h3 : ((other : Int) == (stamp : Int)) = false := beq_eq_false_iff_ne.2 (by omega)
      rw [h3]
      have : (openL other T.data.toList).isSome = false := by rw [hT.out]; show (openL other (sealL stamp s.data.toList)).isSome = false; rw [openL_other stamp other hs ho _ e]; rfl
      exact Lib.hid this
  obtain ⟨same, hsame⟩ : ∃ b : Bool, ((other : Int) == (stamp : Int)) = b := ⟨_, rfl⟩
  rw [hsame] at hb2
  obtain ⟨q3, hq3⟩ : ∃ q, Hid (openS stamp raw = q) := ⟨_, Lib.hid rfl⟩
  obtain ⟨b3, hb3⟩ : ∃ b, Hid ((openL stamp raw.data.toList).isSome = b) := ⟨_, Lib.hid rfl⟩
  have H1 := hide fun (W : World) (hW : Glob B W A) => seal_ok stamp hs hs0 s hp B A W hW T hT
  have H2 := hide fun (W : World) (hW : Glob B W A) => open_ok stamp hs T B A W hW s true hq1 hb1
  have H3 := hide fun (W : World) (hW : Glob B W A) => open_ok other ho T B A W hW q2 same hq2 hb2
  have H4 := hide fun (W : World) (hW : Glob B W A) => open_ok stamp hs raw B A W hW q3 b3 hq3 hb3
  have HG0 := Lib.hid hG
  have HB0 : Hid (Below w.heap.size w w) := Lib.hid (Below.refl _ _)
  clear hG
  clear hT hq1 hb1 hq2 hb2
  cases b3
  all_goals cases same
  · have hz := openS_none stamp raw hb3.out
    rw [hq3.out] at hz
    subst hz
    clear hq3 hb3
    go_enter Tryd.func3, Tryd.ntmps3
    go_wp2_with fail
    refine (fixed_any B A _ HG0.out).mono ?_
    rintro e w1 ⟨rfl, hb⟩
    have HG1 := Lib.hid (HG0.out.on hb)
    have HB1 := Lib.hid (HB0.out.trans (hb.mono HB0.out.size))
    clear hb
    go_wp2_with fail
    refine (unhide H1 _ HG1.out).mono ?_
    rintro e w2 ⟨rfl, hb⟩
    have HG2 := Lib.hid (HG1.out.on hb)
    have HB2 := Lib.hid (HB1.out.trans (hb.mono HB1.out.size))
    clear hb
    go_wp2_with fail
    refine (unhide H2 _ HG2.out).mono ?_
    rintro e w3 ⟨rfl, hb⟩
    have HG3 := Lib.hid (HG2.out.on hb)
    have HB3 := Lib.hid (HB2.out.trans (hb.mono HB2.out.size))
    clear hb
    go_wp2_with fail
    refine (unhide H3 _ HG3.out).mono ?_
    rintro e w4 ⟨rfl, hb⟩
    have HG4 := Lib.hid (HG3.out.on hb)
    have HB4 := Lib.hid (HB3.out.trans (hb.mono HB3.out.size))
    clear hb
    go_wp2_with fail
    refine (unhide H4 _ HG4.out).mono ?_
    rintro e w5 ⟨rfl, hb⟩
    have HG5 := Lib.hid (HG4.out.on hb)
    have HB5 := Lib.hid (HB4.out.trans (hb.mono HB4.out.size))
    clear hb
    go_wp2_with fail
    go_ret
    exact ⟨rfl, HB5.out⟩
  · have hz := openS_none stamp raw hb3.out
    rw [hq3.out] at hz
    subst hz
    clear hq3 hb3
    go_enter Tryd.func3, Tryd.ntmps3
    go_wp2_with fail
    refine (fixed_any B A _ HG0.out).mono ?_
    rintro e w1 ⟨rfl, hb⟩
    have HG1 := Lib.hid (HG0.out.on hb)
    have HB1 := Lib.hid (HB0.out.trans (hb.mono HB0.out.size))
    clear hb
    go_wp2_with fail
    refine (unhide H1 _ HG1.out).mono ?_
    rintro e w2 ⟨rfl, hb⟩
    have HG2 := Lib.hid (HG1.out.on hb)
    have HB2 := Lib.hid (HB1.out.trans (hb.mono HB1.out.size))
    clear hb
    go_wp2_with fail
    refine (unhide H2 _ HG2.out).mono ?_
    rintro e w3 ⟨rfl, hb⟩
    have HG3 := Lib.hid (HG2.out.on hb)
    have HB3 := Lib.hid (HB2.out.trans (hb.mono HB2.out.size))
    clear hb
    go_wp2_with fail
    refine (unhide H3 _ HG3.out).mono ?_
    rintro e w4 ⟨rfl, hb⟩
    have HG4 := Lib.hid (HG3.out.on hb)
    have HB4 := Lib.hid (HB3.out.trans (hb.mono HB3.out.size))
    clear hb
    go_wp2_with fail
    refine (unhide H4 _ HG4.out).mono ?_
    rintro e w5 ⟨rfl, hb⟩
    have HG5 := Lib.hid (HG4.out.on hb)
    have HB5 := Lib.hid (HB4.out.trans (hb.mono HB4.out.size))
    clear hb
    go_wp2_with fail
    go_ret
    exact ⟨rfl, HB5.out⟩
  · obtain ⟨hz, hr⟩ := seal_of_open stamp raw hb3.out
    rw [hq3.out] at hz hr
    have H5 := hide fun (W : World) (hW : Glob B W A) => seal_ok stamp hs hs0 q3 hz B A W hW raw (Lib.hid hr)
    clear hr hq3 hb3
    go_enter Tryd.func3, Tryd.ntmps3
    go_wp2_with fail
    refine (fixed_any B A _ HG0.out).mono ?_
    rintro e w1 ⟨rfl, hb⟩
    have HG1 := Lib.hid (HG0.out.on hb)
    have HB1 := Lib.hid (HB0.out.trans (hb.mono HB0.out.size))
    clear hb
    go_wp2_with fail
    refine (unhide H1 _ HG1.out).mono ?_
    rintro e w2 ⟨rfl, hb⟩
    have HG2 := Lib.hid (HG1.out.on hb)
    have HB2 := Lib.hid (HB1.out.trans (hb.mono HB1.out.size))
    clear hb
    go_wp2_with fail
    refine (unhide H2 _ HG2.out).mono ?_
    rintro e w3 ⟨rfl, hb⟩
    have HG3 := Lib.hid (HG2.out.on hb)
    have HB3 := Lib.hid (HB2.out.trans (hb.mono HB2.out.size))
    clear hb
    go_wp2_with fail
    refine (unhide H3 _ HG3.out).mono ?_
    rintro e w4 ⟨rfl, hb⟩
    have HG4 := Lib.hid (HG3.out.on hb)
    have HB4 := Lib.hid (HB3.out.trans (hb.mono HB3.out.size))
    clear hb
    go_wp2_with fail
    refine (unhide H4 _ HG4.out).mono ?_
    rintro e w5 ⟨rfl, hb⟩
    have HG5 := Lib.hid (HG4.out.on hb)
    have HB5 := Lib.hid (HB4.out.trans (hb.mono HB4.out.size))
    clear hb
    go_wp2_with fail
    refine (unhide H5 _ HG5.out).mono ?_
    rintro e w6 ⟨rfl, hb⟩
    have HG6 := Lib.hid (HG5.out.on hb)
    have HB6 := Lib.hid (HB5.out.trans (hb.mono HB5.out.size))
    clear hb
    go_wp2_with fail
    go_ret
    exact ⟨rfl, HB6.out⟩
  · obtain ⟨hz, hr⟩ := seal_of_open stamp raw hb3.out
    rw [hq3.out] at hz hr
    have H5 := hide fun (W : World) (hW : Glob B W A) => seal_ok stamp hs hs0 q3 hz B A W hW raw (Lib.hid hr)
    clear hr hq3 hb3
    go_enter Tryd.func3, Tryd.ntmps3
    go_wp2_with fail
    refine (fixed_any B A _ HG0.out).mono ?_
    rintro e w1 ⟨rfl, hb⟩
    have HG1 := Lib.hid (HG0.out.on hb)
    have HB1 := Lib.hid (HB0.out.trans (hb.mono HB0.out.size))
    clear hb
    go_wp2_with fail
    refine (unhide H1 _ HG1.out).mono ?_
    rintro e w2 ⟨rfl, hb⟩
    have HG2 := Lib.hid (HG1.out.on hb)
    have HB2 := Lib.hid (HB1.out.trans (hb.mono HB1.out.size))
    clear hb
    go_wp2_with fail
    refine (unhide H2 _ HG2.out).mono ?_
    rintro e w3 ⟨rfl, hb⟩
    have HG3 := Lib.hid (HG2.out.on hb)
    have HB3 := Lib.hid (HB2.out.trans (hb.mono HB2.out.size))
    clear hb
    go_wp2_with fail
    refine (unhide H3 _ HG3.out).mono ?_
    rintro e w4 ⟨rfl, hb⟩
    have HG4 := Lib.hid (HG3.out.on hb)
    have HB4 := Lib.hid (HB3.out.trans (hb.mono HB3.out.size))
    clear hb
    go_wp2_with fail
    refine (unhide H4 _ HG4.out).mono ?_
    rintro e w5 ⟨rfl, hb⟩
    have HG5 := Lib.hid (HG4.out.on hb)
    have HB5 := Lib.hid (HB4.out.trans (hb.mono HB4.out.size))
    clear hb
    go_wp2_with fail
    refine (unhide H5 _ HG5.out).mono ?_
    rintro e w6 ⟨rfl, hb⟩
    have HG6 := Lib.hid (HG5.out.on hb)
    have HB6 := Lib.hid (HB5.out.trans (hb.mono HB5.out.size))
    clear hb
    go_wp2_with fail
    go_ret
    exact ⟨rfl, HB6.out⟩
theorem oneform_law (stamp other : Nat) (hs : stamp < 18446744073709551616) (ho : other < 18446744073709551616) (s raw : ByteArray) (B : Nat) (A : Nat → Addr) (w : World) (hG : Glob B w A) :
    Calls Tryd.prog 3 #[.int .u64 stamp, .int .u64 other, .string s, .string raw] w fun e w' => e = .returned (.bool true) ∧ Below w.heap.size w w' := by
  by_cases h0 : stamp = 0
  · subst h0
    exact oneform_zero other s raw B A w hG
  · by_cases hl : s.size ≤ 234
    · exact oneform_yes stamp other hs ho (by omega) s raw hl B A w hG
    · exact oneform_long stamp (by omega) other s raw (by omega) B A w hG
end Go.Proofs.YtffmekcpkilkoaaDoor
