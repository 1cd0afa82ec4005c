/-
  Layer 22: the table, as a plain function; both Steps come to it. Rank and Name of both.
-/
import Derived.Test.YtfemggdbgibgaaaStep1
import Derived.Test.YtfemggdbgibgaaaStep2
import Derived.Test.YtfemggdbgibgaaaStep3
import Derived.Test.YtfemggdbgibgaaaStep4
import Derived.Test.YtfemggdbgibgaaaRef1
import Derived.Test.YtfemggdbgibgaaaRef2
import Derived.Test.YtfemggdbgibgaaaRef3
import Derived.Test.YtfemggdbgibgaaaRef4
namespace Go.Proofs.Ytfemggdbgibgaaa
open Go.RowKit

/-- A move. -/
structure Mo where
  t : Bool
  p : Int
  a : Int
  post : Int
  send : Int
  att : Bool
  tim : Bool
  smp : Int
deriving DecidableEq
abbrev Mo.val (m : Mo) : Value := mv m.t m.p m.a m.post m.send m.att m.tim m.smp
def moNone (p a : Int) : Mo := ⟨false, p, a, 0, 0, false, false, -1⟩
/-- The table. -/
def stepMo (p a x : Int) : Mo :=
  if (goodB p a && openB p) = true then
    if x = 4 then ⟨true, 3, 0, 1, 0, false, false, 2⟩
    else if x = 5 ∨ x = 6 then ⟨true, 4, 0, 2, 0, false, false, 2⟩
    else if a = 0 then (if x = 3 then ⟨true, 2, 2, 0, 2, false, true, -1⟩ else moNone p a)
    else if x = 8 then ⟨true, p, a, 0, 0, false, false, 1⟩
    else if x = 1 ∧ p = 1 then ⟨true, 1, 1, 0, 1, true, true, 0⟩
    else if x = 1 ∨ x = 2 then ⟨true, 2, 0, 0, 0, false, false, 0⟩
    else if x = 7 ∧ a = 2 then ⟨true, 2, 3, 0, 3, false, true, 2⟩
    else moNone p a
  else moNone p a
theorem mo_n {p a x : Int} (h : goodB p a = false) : stepMo p a x = moNone p a := by simp [stepMo, h]
theorem mo_c {p a x : Int} (h : openB p = false) : stepMo p a x = moNone p a := by simp [stepMo, h]
theorem pairs_open {p a : Int} (hg : goodB p a = true) (ho : openB p = true) : (p = 1 ∧ a = 1) ∨ (p = 2 ∧ a = 0) ∨ (p = 2 ∧ a = 2) ∨ (p = 2 ∧ a = 3) := by
  have h1 := (goodB_iff p a).1 hg
  have h2 := (openB_iff p).1 ho
  omega
theorem mo_o (p a x : Int) (h : x < 1 ∨ 8 < x) : stepMo p a x = moNone p a := by
  unfold stepMo
  repeat' split
  all_goals first | rfl | omega
theorem step_any (p a x : Int) (w : World) :
    Calls Try.prog 8 #[.int .i64 p, .int .i64 a, .int .i64 x] w fun e w' => e = .returned (stepMo p a x).val ∧ Below w.heap.size w w' := by
  cases hg : goodB p a
  · rw [mo_n hg]; exact step_n p a x hg w
  cases ho : openB p
  · rw [mo_c ho]; exact step_c p a x hg ho w
  have hp := pairs_open hg ho
  clear hg ho
  rcases hp with ⟨rfl, rfl⟩ | ⟨rfl, rfl⟩ | ⟨rfl, rfl⟩ | ⟨rfl, rfl⟩
  · by_cases h1 : x = 1
    · subst h1; rw [show stepMo 1 1 1 = ⟨true, 1, 1, 0, 1, true, true, 0⟩ from by decide]; exact step_111 w
    by_cases h2 : x = 2
    · subst h2; rw [show stepMo 1 1 2 = ⟨true, 2, 0, 0, 0, false, false, 0⟩ from by decide]; exact step_112 w
    by_cases h3 : x = 3
    · subst h3; rw [show stepMo 1 1 3 = ⟨false, 1, 1, 0, 0, false, false, (-1)⟩ from by decide]; exact step_113 w
    by_cases h4 : x = 4
    · subst h4; rw [show stepMo 1 1 4 = ⟨true, 3, 0, 1, 0, false, false, 2⟩ from by decide]; exact step_114 w
    by_cases h5 : x = 5
    · subst h5; rw [show stepMo 1 1 5 = ⟨true, 4, 0, 2, 0, false, false, 2⟩ from by decide]; exact step_115 w
    by_cases h6 : x = 6
    · subst h6; rw [show stepMo 1 1 6 = ⟨true, 4, 0, 2, 0, false, false, 2⟩ from by decide]; exact step_116 w
    by_cases h7 : x = 7
    · subst h7; rw [show stepMo 1 1 7 = ⟨false, 1, 1, 0, 0, false, false, (-1)⟩ from by decide]; exact step_117 w
    by_cases h8 : x = 8
    · subst h8; rw [show stepMo 1 1 8 = ⟨true, 1, 1, 0, 0, false, false, 1⟩ from by decide]; exact step_118 w
    rw [mo_o _ _ x (by omega)]
    exact step_11o x h1 h2 h3 h4 h5 h6 h7 h8 w
  · by_cases h1 : x = 1
    · subst h1; rw [show stepMo 2 0 1 = ⟨false, 2, 0, 0, 0, false, false, (-1)⟩ from by decide]; exact step_201 w
    by_cases h2 : x = 2
    · subst h2; rw [show stepMo 2 0 2 = ⟨false, 2, 0, 0, 0, false, false, (-1)⟩ from by decide]; exact step_202 w
    by_cases h3 : x = 3
    · subst h3; rw [show stepMo 2 0 3 = ⟨true, 2, 2, 0, 2, false, true, (-1)⟩ from by decide]; exact step_203 w
    by_cases h4 : x = 4
    · subst h4; rw [show stepMo 2 0 4 = ⟨true, 3, 0, 1, 0, false, false, 2⟩ from by decide]; exact step_204 w
    by_cases h5 : x = 5
    · subst h5; rw [show stepMo 2 0 5 = ⟨true, 4, 0, 2, 0, false, false, 2⟩ from by decide]; exact step_205 w
    by_cases h6 : x = 6
    · subst h6; rw [show stepMo 2 0 6 = ⟨true, 4, 0, 2, 0, false, false, 2⟩ from by decide]; exact step_206 w
    by_cases h7 : x = 7
    · subst h7; rw [show stepMo 2 0 7 = ⟨false, 2, 0, 0, 0, false, false, (-1)⟩ from by decide]; exact step_207 w
    by_cases h8 : x = 8
    · subst h8; rw [show stepMo 2 0 8 = ⟨false, 2, 0, 0, 0, false, false, (-1)⟩ from by decide]; exact step_208 w
    rw [mo_o _ _ x (by omega)]
    exact step_20o x h1 h2 h3 h4 h5 h6 h7 h8 w
  · by_cases h1 : x = 1
    · subst h1; rw [show stepMo 2 2 1 = ⟨true, 2, 0, 0, 0, false, false, 0⟩ from by decide]; exact step_221 w
    by_cases h2 : x = 2
    · subst h2; rw [show stepMo 2 2 2 = ⟨true, 2, 0, 0, 0, false, false, 0⟩ from by decide]; exact step_222 w
    by_cases h3 : x = 3
    · subst h3; rw [show stepMo 2 2 3 = ⟨false, 2, 2, 0, 0, false, false, (-1)⟩ from by decide]; exact step_223 w
    by_cases h4 : x = 4
    · subst h4; rw [show stepMo 2 2 4 = ⟨true, 3, 0, 1, 0, false, false, 2⟩ from by decide]; exact step_224 w
    by_cases h5 : x = 5
    · subst h5; rw [show stepMo 2 2 5 = ⟨true, 4, 0, 2, 0, false, false, 2⟩ from by decide]; exact step_225 w
    by_cases h6 : x = 6
    · subst h6; rw [show stepMo 2 2 6 = ⟨true, 4, 0, 2, 0, false, false, 2⟩ from by decide]; exact step_226 w
    by_cases h7 : x = 7
    · subst h7; rw [show stepMo 2 2 7 = ⟨true, 2, 3, 0, 3, false, true, 2⟩ from by decide]; exact step_227 w
    by_cases h8 : x = 8
    · subst h8; rw [show stepMo 2 2 8 = ⟨true, 2, 2, 0, 0, false, false, 1⟩ from by decide]; exact step_228 w
    rw [mo_o _ _ x (by omega)]
    exact step_22o x h1 h2 h3 h4 h5 h6 h7 h8 w
  · by_cases h1 : x = 1
    · subst h1; rw [show stepMo 2 3 1 = ⟨true, 2, 0, 0, 0, false, false, 0⟩ from by decide]; exact step_231 w
    by_cases h2 : x = 2
    · subst h2; rw [show stepMo 2 3 2 = ⟨true, 2, 0, 0, 0, false, false, 0⟩ from by decide]; exact step_232 w
    by_cases h3 : x = 3
    · subst h3; rw [show stepMo 2 3 3 = ⟨false, 2, 3, 0, 0, false, false, (-1)⟩ from by decide]; exact step_233 w
    by_cases h4 : x = 4
    · subst h4; rw [show stepMo 2 3 4 = ⟨true, 3, 0, 1, 0, false, false, 2⟩ from by decide]; exact step_234 w
    by_cases h5 : x = 5
    · subst h5; rw [show stepMo 2 3 5 = ⟨true, 4, 0, 2, 0, false, false, 2⟩ from by decide]; exact step_235 w
    by_cases h6 : x = 6
    · subst h6; rw [show stepMo 2 3 6 = ⟨true, 4, 0, 2, 0, false, false, 2⟩ from by decide]; exact step_236 w
    by_cases h7 : x = 7
    · subst h7; rw [show stepMo 2 3 7 = ⟨false, 2, 3, 0, 0, false, false, (-1)⟩ from by decide]; exact step_237 w
    by_cases h8 : x = 8
    · subst h8; rw [show stepMo 2 3 8 = ⟨true, 2, 3, 0, 0, false, false, 1⟩ from by decide]; exact step_238 w
    rw [mo_o _ _ x (by omega)]
    exact step_23o x h1 h2 h3 h4 h5 h6 h7 h8 w
theorem stepr_any (p a x : Int) (w : World) :
    Calls Try.prog 9 #[.int .i64 p, .int .i64 a, .int .i64 x] w fun e w' => e = .returned (stepMo p a x).val ∧ Below w.heap.size w w' := by
  cases hg : goodB p a
  · rw [mo_n hg]; exact stepr_n p a x hg w
  cases ho : openB p
  · rw [mo_c ho]; exact stepr_c p a x hg ho w
  have hp := pairs_open hg ho
  clear hg ho
  rcases hp with ⟨rfl, rfl⟩ | ⟨rfl, rfl⟩ | ⟨rfl, rfl⟩ | ⟨rfl, rfl⟩
  · by_cases h1 : x = 1
    · subst h1; rw [show stepMo 1 1 1 = ⟨true, 1, 1, 0, 1, true, true, 0⟩ from by decide]; exact stepr_111 w
    by_cases h2 : x = 2
    · subst h2; rw [show stepMo 1 1 2 = ⟨true, 2, 0, 0, 0, false, false, 0⟩ from by decide]; exact stepr_112 w
    by_cases h3 : x = 3
    · subst h3; rw [show stepMo 1 1 3 = ⟨false, 1, 1, 0, 0, false, false, (-1)⟩ from by decide]; exact stepr_113 w
    by_cases h4 : x = 4
    · subst h4; rw [show stepMo 1 1 4 = ⟨true, 3, 0, 1, 0, false, false, 2⟩ from by decide]; exact stepr_114 w
    by_cases h5 : x = 5
    · subst h5; rw [show stepMo 1 1 5 = ⟨true, 4, 0, 2, 0, false, false, 2⟩ from by decide]; exact stepr_115 w
    by_cases h6 : x = 6
    · subst h6; rw [show stepMo 1 1 6 = ⟨true, 4, 0, 2, 0, false, false, 2⟩ from by decide]; exact stepr_116 w
    by_cases h7 : x = 7
    · subst h7; rw [show stepMo 1 1 7 = ⟨false, 1, 1, 0, 0, false, false, (-1)⟩ from by decide]; exact stepr_117 w
    by_cases h8 : x = 8
    · subst h8; rw [show stepMo 1 1 8 = ⟨true, 1, 1, 0, 0, false, false, 1⟩ from by decide]; exact stepr_118 w
    rw [mo_o _ _ x (by omega)]
    exact stepr_11o x h1 h2 h3 h4 h5 h6 h7 h8 w
  · by_cases h1 : x = 1
    · subst h1; rw [show stepMo 2 0 1 = ⟨false, 2, 0, 0, 0, false, false, (-1)⟩ from by decide]; exact stepr_201 w
    by_cases h2 : x = 2
    · subst h2; rw [show stepMo 2 0 2 = ⟨false, 2, 0, 0, 0, false, false, (-1)⟩ from by decide]; exact stepr_202 w
    by_cases h3 : x = 3
    · subst h3; rw [show stepMo 2 0 3 = ⟨true, 2, 2, 0, 2, false, true, (-1)⟩ from by decide]; exact stepr_203 w
    by_cases h4 : x = 4
    · subst h4; rw [show stepMo 2 0 4 = ⟨true, 3, 0, 1, 0, false, false, 2⟩ from by decide]; exact stepr_204 w
    by_cases h5 : x = 5
    · subst h5; rw [show stepMo 2 0 5 = ⟨true, 4, 0, 2, 0, false, false, 2⟩ from by decide]; exact stepr_205 w
    by_cases h6 : x = 6
    · subst h6; rw [show stepMo 2 0 6 = ⟨true, 4, 0, 2, 0, false, false, 2⟩ from by decide]; exact stepr_206 w
    by_cases h7 : x = 7
    · subst h7; rw [show stepMo 2 0 7 = ⟨false, 2, 0, 0, 0, false, false, (-1)⟩ from by decide]; exact stepr_207 w
    by_cases h8 : x = 8
    · subst h8; rw [show stepMo 2 0 8 = ⟨false, 2, 0, 0, 0, false, false, (-1)⟩ from by decide]; exact stepr_208 w
    rw [mo_o _ _ x (by omega)]
    exact stepr_20o x h1 h2 h3 h4 h5 h6 h7 h8 w
  · by_cases h1 : x = 1
    · subst h1; rw [show stepMo 2 2 1 = ⟨true, 2, 0, 0, 0, false, false, 0⟩ from by decide]; exact stepr_221 w
    by_cases h2 : x = 2
    · subst h2; rw [show stepMo 2 2 2 = ⟨true, 2, 0, 0, 0, false, false, 0⟩ from by decide]; exact stepr_222 w
    by_cases h3 : x = 3
    · subst h3; rw [show stepMo 2 2 3 = ⟨false, 2, 2, 0, 0, false, false, (-1)⟩ from by decide]; exact stepr_223 w
    by_cases h4 : x = 4
    · subst h4; rw [show stepMo 2 2 4 = ⟨true, 3, 0, 1, 0, false, false, 2⟩ from by decide]; exact stepr_224 w
    by_cases h5 : x = 5
    · subst h5; rw [show stepMo 2 2 5 = ⟨true, 4, 0, 2, 0, false, false, 2⟩ from by decide]; exact stepr_225 w
    by_cases h6 : x = 6
    · subst h6; rw [show stepMo 2 2 6 = ⟨true, 4, 0, 2, 0, false, false, 2⟩ from by decide]; exact stepr_226 w
    by_cases h7 : x = 7
    · subst h7; rw [show stepMo 2 2 7 = ⟨true, 2, 3, 0, 3, false, true, 2⟩ from by decide]; exact stepr_227 w
    by_cases h8 : x = 8
    · subst h8; rw [show stepMo 2 2 8 = ⟨true, 2, 2, 0, 0, false, false, 1⟩ from by decide]; exact stepr_228 w
    rw [mo_o _ _ x (by omega)]
    exact stepr_22o x h1 h2 h3 h4 h5 h6 h7 h8 w
  · by_cases h1 : x = 1
    · subst h1; rw [show stepMo 2 3 1 = ⟨true, 2, 0, 0, 0, false, false, 0⟩ from by decide]; exact stepr_231 w
    by_cases h2 : x = 2
    · subst h2; rw [show stepMo 2 3 2 = ⟨true, 2, 0, 0, 0, false, false, 0⟩ from by decide]; exact stepr_232 w
    by_cases h3 : x = 3
    · subst h3; rw [show stepMo 2 3 3 = ⟨false, 2, 3, 0, 0, false, false, (-1)⟩ from by decide]; exact stepr_233 w
    by_cases h4 : x = 4
    · subst h4; rw [show stepMo 2 3 4 = ⟨true, 3, 0, 1, 0, false, false, 2⟩ from by decide]; exact stepr_234 w
    by_cases h5 : x = 5
    · subst h5; rw [show stepMo 2 3 5 = ⟨true, 4, 0, 2, 0, false, false, 2⟩ from by decide]; exact stepr_235 w
    by_cases h6 : x = 6
    · subst h6; rw [show stepMo 2 3 6 = ⟨true, 4, 0, 2, 0, false, false, 2⟩ from by decide]; exact stepr_236 w
    by_cases h7 : x = 7
    · subst h7; rw [show stepMo 2 3 7 = ⟨false, 2, 3, 0, 0, false, false, (-1)⟩ from by decide]; exact stepr_237 w
    by_cases h8 : x = 8
    · subst h8; rw [show stepMo 2 3 8 = ⟨true, 2, 3, 0, 0, false, false, 1⟩ from by decide]; exact stepr_238 w
    rw [mo_o _ _ x (by omega)]
    exact stepr_23o x h1 h2 h3 h4 h5 h6 h7 h8 w

def rankN (p : Int) : Int := if p = 1 then 1 else if p = 2 then 2 else if p = 3 ∨ p = 4 then 3 else 0
def nameB (p : Int) : ByteArray := if p = 1 then ⟨#[114, 101, 115, 101, 114, 118, 101, 100]⟩ else if p = 2 then ⟨#[112, 97, 114, 107, 101, 100]⟩ else if p = 3 then ⟨#[115, 101, 116, 116, 108, 101, 100]⟩ else if p = 4 then ⟨#[114, 101, 102, 117, 110, 100, 101, 100]⟩ else ⟨#[]⟩
set_option maxHeartbeats 1000000 in
theorem rank_any (p : Int) (w : World) :
    Calls Try.prog 16 #[.int .i64 p] w fun e w' => e = .returned (.int .i64 (rankN p)) ∧ w = w' := by
  by_cases h1 : p = 1
  · subst h1
    rw [show rankN 1 = 1 from by decide]
    go_enter Try.func16, Try.ntmps16
    go_wp2
    go_ret
    exact ⟨rfl, rfl⟩
  by_cases h2 : p = 2
  · subst h2
    rw [show rankN 2 = 2 from by decide]
    go_enter Try.func16, Try.ntmps16
    go_wp2
    go_ret
    exact ⟨rfl, rfl⟩
  by_cases h3 : p = 3
  · subst h3
    rw [show rankN 3 = 3 from by decide]
    go_enter Try.func16, Try.ntmps16
    go_wp2
    go_ret
    exact ⟨rfl, rfl⟩
  by_cases h4 : p = 4
  · subst h4
    rw [show rankN 4 = 3 from by decide]
    go_enter Try.func16, Try.ntmps16
    go_wp2
    go_ret
    exact ⟨rfl, rfl⟩
  have hv := Lib.hid (show rankN p = 0 from by unfold rankN; simp [h1, h2, h3, h4])
  have e1 := beq_no h1
  have e2 := beq_no h2
  have e3 := beq_no h3
  have e4 := beq_no h4
  rw [hv.out]
  clear h1 h2 h3 h4
  go_enter Try.func16, Try.ntmps16
  go_wp2
  go_ret
  exact ⟨rfl, rfl⟩
set_option maxHeartbeats 1000000 in
theorem name_any (p : Int) (w : World) :
    Calls Try.prog 18 #[.int .i64 p] w fun e w' => e = .returned (.string (nameB p)) ∧ w = w' := by
  by_cases h1 : p = 1
  · subst h1
    rw [show nameB 1 = ⟨#[114, 101, 115, 101, 114, 118, 101, 100]⟩ from by decide]
    go_enter Try.func18, Try.ntmps18
    go_wp2
    go_ret
    exact ⟨rfl, rfl⟩
  by_cases h2 : p = 2
  · subst h2
    rw [show nameB 2 = ⟨#[112, 97, 114, 107, 101, 100]⟩ from by decide]
    go_enter Try.func18, Try.ntmps18
    go_wp2
    go_ret
    exact ⟨rfl, rfl⟩
  by_cases h3 : p = 3
  · subst h3
    rw [show nameB 3 = ⟨#[115, 101, 116, 116, 108, 101, 100]⟩ from by decide]
    go_enter Try.func18, Try.ntmps18
    go_wp2
    go_ret
    exact ⟨rfl, rfl⟩
  by_cases h4 : p = 4
  · subst h4
    rw [show nameB 4 = ⟨#[114, 101, 102, 117, 110, 100, 101, 100]⟩ from by decide]
    go_enter Try.func18, Try.ntmps18
    go_wp2
    go_ret
    exact ⟨rfl, rfl⟩
  have hv := Lib.hid (show nameB p = ⟨#[]⟩ from by unfold nameB; simp [h1, h2, h3, h4])
  have e1 := beq_no h1
  have e2 := beq_no h2
  have e3 := beq_no h3
  have e4 := beq_no h4
  rw [hv.out]
  clear h1 h2 h3 h4
  go_enter Try.func18, Try.ntmps18
  go_wp2
  go_ret
  exact ⟨rfl, rfl⟩
set_option maxHeartbeats 1000000 in
theorem rankr_any (p : Int) (w : World) :
    Calls Try.prog 17 #[.int .i64 p] w fun e w' => e = .returned (.int .i64 (rankN p)) ∧ w = w' := by
  by_cases h1 : p = 1
  · subst h1
    rw [show rankN 1 = 1 from by decide]
    go_enter Try.func17, Try.ntmps17
    go_wp2
    go_ret
    exact ⟨rfl, rfl⟩
  by_cases h2 : p = 2
  · subst h2
    rw [show rankN 2 = 2 from by decide]
    go_enter Try.func17, Try.ntmps17
    go_wp2
    go_ret
    exact ⟨rfl, rfl⟩
  by_cases h3 : p = 3
  · subst h3
    rw [show rankN 3 = 3 from by decide]
    go_enter Try.func17, Try.ntmps17
    go_wp2
    go_ret
    exact ⟨rfl, rfl⟩
  by_cases h4 : p = 4
  · subst h4
    rw [show rankN 4 = 3 from by decide]
    go_enter Try.func17, Try.ntmps17
    go_wp2
    go_ret
    exact ⟨rfl, rfl⟩
  rw [show rankN p = 0 from by unfold rankN; simp [h1, h2, h3, h4]]
  rcases (by omega : p < 1 ∨ 4 < p) with h | h
  · clear h1 h2 h3 h4
    go_enter Try.func17, Try.ntmps17
    go_wp2
    go_ret
    exact ⟨rfl, rfl⟩
  · have h' : ¬ p < 1 := by omega
    clear h1 h2 h3 h4
    go_enter Try.func17, Try.ntmps17
    go_wp2
    go_ret
    exact ⟨rfl, rfl⟩
set_option maxHeartbeats 1000000 in
theorem namer_any (p : Int) (w : World) :
    Calls Try.prog 19 #[.int .i64 p] w fun e w' => e = .returned (.string (nameB p)) ∧ Below w.heap.size w w' := by
  by_cases h1 : p = 1
  · subst h1
    rw [show nameB 1 = ⟨#[114, 101, 115, 101, 114, 118, 101, 100]⟩ from by decide]
    go_enter Try.func19, Try.ntmps19
    go_wp2_with fail
    refine (rankr_any _ _).mono ?_
    rintro e w1 ⟨rfl, rfl⟩
    rw [show rankN 1 = 1 from by decide]
    go_wp2
    go_ret
    exact ⟨rfl, (Below.refl _ _).alloc (Nat.le_refl _) _⟩
  by_cases h2 : p = 2
  · subst h2
    rw [show nameB 2 = ⟨#[112, 97, 114, 107, 101, 100]⟩ from by decide]
    go_enter Try.func19, Try.ntmps19
    go_wp2_with fail
    refine (rankr_any _ _).mono ?_
    rintro e w1 ⟨rfl, rfl⟩
    rw [show rankN 2 = 2 from by decide]
    go_wp2
    go_ret
    exact ⟨rfl, (Below.refl _ _).alloc (Nat.le_refl _) _⟩
  by_cases h3 : p = 3
  · subst h3
    rw [show nameB 3 = ⟨#[115, 101, 116, 116, 108, 101, 100]⟩ from by decide]
    go_enter Try.func19, Try.ntmps19
    go_wp2_with fail
    refine (rankr_any _ _).mono ?_
    rintro e w1 ⟨rfl, rfl⟩
    rw [show rankN 3 = 3 from by decide]
    go_wp2
    go_ret
    exact ⟨rfl, (Below.refl _ _).alloc (Nat.le_refl _) _⟩
  by_cases h4 : p = 4
  · subst h4
    rw [show nameB 4 = ⟨#[114, 101, 102, 117, 110, 100, 101, 100]⟩ from by decide]
    go_enter Try.func19, Try.ntmps19
    go_wp2_with fail
    refine (rankr_any _ _).mono ?_
    rintro e w1 ⟨rfl, rfl⟩
    rw [show rankN 4 = 3 from by decide]
    go_wp2
    go_ret
    exact ⟨rfl, (Below.refl _ _).alloc (Nat.le_refl _) _⟩
  · have hr := Lib.hid (show rankN p = 0 from by unfold rankN; simp [h1, h2, h3, h4])
    rw [show nameB p = ⟨#[]⟩ from by unfold nameB; simp [h1, h2, h3, h4]]
    clear h1 h2 h3 h4
    go_enter Try.func19, Try.ntmps19
    go_wp2_with fail
    refine (rankr_any _ _).mono ?_
    rintro e w1 ⟨rfl, rfl⟩
    rw [hr.out]
    go_wp2
    go_ret
    exact ⟨rfl, (Below.refl _ _).alloc (Nat.le_refl _) _⟩
end Go.Proofs.Ytfemggdbgibgaaa
