/-
  Walks over statements of layer 2: Split against the reference's.
-/
import Derived.Test.YtfgkgehlokabgaaDoorRefSplit
namespace Go.Proofs.YtfgkgehlokabgaaDoor
open Go.RowKit

theorem splitr_yes_at {l : List UInt8} {ps : List Ky.Part} (hk : Ky.IsKey l ps) (s : ByteArray) (hl : s.data.toList = l) (hs : s.size ≤ 1073741824) (n : Nat) (hn : ps.length = n) (W : World) :
    Calls Tryd.prog 11 #[.string s] W fun e w' => ∃ ad cap, e = .returned (.tuple #[.slice ad n cap, .int .i64 0]) ∧ In w' ad n (lof ps) ∧ Below W.heap.size W w' := by
  refine (splitr_walk s l hl hs W).mono ?_
  rintro e w' ⟨h1, _, h3⟩
  obtain ⟨v, rfl, ho⟩ := h1 ps hk
  obtain ⟨ad, cap, rfl, hcap, hin, hsome⟩ := own_in ho hk (by rw [← hl, size_toList]; omega) n hn
  exact ⟨ad, cap, rfl, hin, h3⟩
theorem splitr_no_at {l : List UInt8} (hk : ∀ ps, ¬ Ky.IsKey l ps) (s : ByteArray) (hl : s.data.toList = l) (hs : s.size ≤ 1073741824) (W : World) :
    Calls Tryd.prog 11 #[.string s] W fun e w' => ∃ ad cap, e = .returned (.tuple #[.slice ad 0 cap, .int .i64 7]) ∧ Below W.heap.size W w' := by
  refine (splitr_walk s l hl hs W).mono ?_
  rintro e w' ⟨_, h2, h3⟩
  obtain ⟨ad, cap, rfl⟩ := h2 hk
  exact ⟨ad, cap, rfl, h3⟩
theorem sameB_zero (A B : Nat → PV) : sameB A B 0 0 = true := sameB_all A B 0 fun i hi => absurd hi (by omega)
/-- After's answer, the program's and the reference's. -/
theorem after_both (s : ByteArray) (hs : s.size ≤ 1073741824) : ∃ (x : ByteArray) (b : Bool), (∀ W : World, Calls Tryd.prog 12 #[.string s] W fun e w' => e = .returned (.tuple #[.string x, .bool b]) ∧ Below W.heap.size W w') ∧ ∀ W : World, Calls Tryd.prog 13 #[.string s] W fun e w' => e = .returned (.tuple #[.string x, .bool b]) ∧ Below W.heap.size W w' := by
  rcases tops_or s.data.toList with ⟨k, h⟩ | ⟨p, c, k, hc, h⟩
  · exact ⟨_, _, fun W => after_none s k h (by omega) W, fun W => afterr_none s k h (by omega) W⟩
  · exact ⟨_, _, fun W => after_some s p c k hc h (by omega) W, fun W => afterr_some s p c k hc h (by omega) W⟩
set_option maxRecDepth 100000 in
set_option maxHeartbeats 8000000 in
theorem splits_law (key : ByteArray) (hks : key.size ≤ 1073741824) (A : Nat → Addr) (w : World) (hE : Errs w.heap.size w A) :
    Calls Tryd.prog 4 #[.string key] w fun e w' => e = .returned (.bool true) ∧ Below w.heap.size w w' := by
  have hc : w.cell? ⟨0, 0, none⟩ = some (.iface 59 (.pointer (some (A 6)))) := hE.var 6 _ rfl
  obtain ⟨x, b, ha, har⟩ := after_both key hks
  have A1 := hide ha
  have A2 := hide har
  have HE := Lib.hid hE
  rcases Classical.em (∃ ps, Ky.IsKey key.data.toList ps) with ⟨ps, hk⟩ | hk
  · have S1 := hide fun W hb => split_yes_at hc hk key rfl hks ps.length rfl W hb
    have S2 := hide fun W => splitr_yes_at hk key rfl hks ps.length rfl W
    have q1 := Lib.hid (sameB_all (lof ps) (lof ps) ps.length fun i hi => rfl)
    have q2 := Lib.hid (lof_clean ps hk.2.1 ps.length rfl)
    clear hk hE hc ha har hks
    go_enter Tryd.func4, Tryd.ntmps4
    go_wp2_with fail
    refine (lives_any _).mono ?_
    rintro e w1 ⟨rfl, hb⟩
    have HB1 := Lib.hid hb
    clear hb
    go_wp2_with fail
    refine (unhide S1 _ HB1.out).mono ?_
    rintro e w2 ⟨ad1, cap1, rfl, _, hX, _, hb⟩
    have HB2 := Lib.hid (HB1.out.trans (hb.mono HB1.out.size))
    have HX := Lib.hid hX
    clear hb hX
    go_wp2_with fail
    refine (unhide S2 _).mono ?_
    rintro e w3 ⟨ad2, cap2, rfl, hY, hb⟩
    have HB3 := Lib.hid (HB2.out.trans (hb.mono HB2.out.size))
    have HX3 := Lib.hid (HX.out.later hb)
    have HY := Lib.hid hY
    clear hb hY HX
    go_wp2_with fail
    refine (unhide A1 _).mono ?_
    rintro e w4 ⟨rfl, hb⟩
    have HB4 := Lib.hid (HB3.out.trans (hb.mono HB3.out.size))
    have h34 := Lib.hid hb
    clear hb
    go_wp2_with fail
    refine (unhide A2 _).mono ?_
    rintro e w5 ⟨rfl, hb⟩
    have HB5 := Lib.hid (HB4.out.trans (hb.mono HB4.out.size))
    have h35 := Lib.hid (h34.out.trans (hb.mono h34.out.size))
    clear hb
    go_wp2_with fail
    refine (num_nil _).mono ?_
    rintro e w6 ⟨rfl, rfl⟩
    go_wp2_with fail
    refine (same_at HX3.out HY.out cap1 cap2 true q1 w5 h35.out).mono ?_
    rintro e w7 ⟨rfl, hb⟩
    have HB7 := Lib.hid (HB5.out.trans (hb.mono HB5.out.size))
    have h37 := Lib.hid (h35.out.trans (hb.mono h35.out.size))
    clear hb
    go_wp2_with fail
    refine (clean_at HX3.out cap1 q2.out w7 h37.out).mono ?_
    rintro e w8 ⟨rfl, hb⟩
    have HB8 := Lib.hid (HB7.out.trans (hb.mono HB7.out.size))
    clear hb
    go_wp2_with fail
    go_ret
    exact ⟨rfl, HB8.out⟩
  · have S1 := hide fun W hb => split_no_at hc (fun ps h => hk ⟨ps, h⟩) key rfl hks W hb
    have S2 := hide fun W => splitr_no_at (fun ps h => hk ⟨ps, h⟩) key rfl hks W
    have q1 := Lib.hid (sameB_zero (fun _ => ⟨false, 0, ⟨#[]⟩⟩) (fun _ => ⟨false, 0, ⟨#[]⟩⟩))
    clear hk hE hc ha har hks
    go_enter Tryd.func4, Tryd.ntmps4
    go_wp2_with fail
    refine (lives_any _).mono ?_
    rintro e w1 ⟨rfl, hb⟩
    have HB1 := Lib.hid hb
    clear hb
    go_wp2_with fail
    refine (unhide S1 _ HB1.out).mono ?_
    rintro e w2 ⟨rfl, hb⟩
    have HB2 := Lib.hid (HB1.out.trans (hb.mono HB1.out.size))
    clear hb
    go_wp2_with fail
    refine (unhide S2 _).mono ?_
    rintro e w3 ⟨ad2, cap2, rfl, hb⟩
    have HB3 := Lib.hid (HB2.out.trans (hb.mono HB2.out.size))
    clear hb
    go_wp2_with fail
    refine (unhide A1 _).mono ?_
    rintro e w4 ⟨rfl, hb⟩
    have HB4 := Lib.hid (HB3.out.trans (hb.mono HB3.out.size))
    clear hb
    go_wp2_with fail
    refine (unhide A2 _).mono ?_
    rintro e w5 ⟨rfl, hb⟩
    have HB5 := Lib.hid (HB4.out.trans (hb.mono HB4.out.size))
    clear hb
    go_wp2_with fail
    refine (num_of 6 7 (by omega) rfl w.heap.size A w5 (HE.out.below HB5.out (Nat.le_refl _))).mono ?_
    rintro e w6 ⟨rfl, hb⟩
    have HB6 := Lib.hid (HB5.out.trans (hb.mono HB5.out.size))
    clear hb
    go_wp2_with fail
    refine (same_at (In.zero w6 _ _) (In.zero w6 _ _) 0 cap2 true q1 w6 (Below.refl _ _)).mono ?_
    rintro e w7 ⟨rfl, hb⟩
    have HB7 := Lib.hid (HB6.out.trans (hb.mono HB6.out.size))
    clear hb
    go_wp2_with fail
    refine (clean_at (In.zero w7 none (fun _ => ⟨false, 0, ⟨#[]⟩⟩)) 0 (fun i hi => absurd hi (by omega)) w7 (Below.refl _ _)).mono ?_
    rintro e w8 ⟨rfl, hb⟩
    have HB8 := Lib.hid (HB7.out.trans (hb.mono HB7.out.size))
    clear hb
    go_wp2_with fail
    go_ret
    exact ⟨rfl, HB8.out⟩
end Go.Proofs.YtfgkgehlokabgaaDoor
