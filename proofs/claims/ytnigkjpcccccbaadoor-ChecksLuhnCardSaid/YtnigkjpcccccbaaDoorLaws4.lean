/-
  Walks over statements of layer 3, more: bursts.
-/
import Derived.Test.YtnigkjpcccccbaaDoorLaws
import Derived.Test.YtnigkjpcccccbaaDoorBurst
import Derived.Laws.IdiomStrings
import Derived.Deep.LoopGhost
namespace Go.Proofs.YtnigkjpcccccbaaDoor
open Go.RowKit

/-- Block g holds the bytes of l, free to be written. -/
structure BytesAt (w : World) (g : Nat) (l : List UInt8) : Prop where
  cell : ∀ j (h : j < l.length), w.cell? ⟨g, j, none⟩ = some (.int .u8 (l[j].toNat : Int))
  free : ∀ j, j < l.length → w.frozen? ⟨g, j, none⟩ = false
theorem BytesAt.set {w : World} {g : Nat} {l : List UInt8} (h : BytesAt w g l) (j : Nat) (hj : j < l.length) (c : UInt8) : BytesAt (w.setCell ⟨g, j, none⟩ (.int .u8 (c.toNat : Int))) g (l.set j c) := by
  refine ⟨fun i hi => ?_, fun i hi => ?_⟩
  · have hi' : i < l.length := by simpa using hi
    by_cases e : i = j
    · subst e
      rw [World.cell?_setCell_same (h := h.cell i hi')]
      simp
    · rw [World.cell?_setCell_other _ _ _ _ (fun e' => e (by injection e' with _ h2; exact h2.symm)), h.cell i hi', List.getElem_set_ne (fun e' => e e'.symm)]
  · rw [World.frozen?_setCell]
    exact h.free i (by simpa using hi)
theorem bytes_new (w1 : World) (s : ByteArray) (l : List UInt8) (hl : s.data.toList = l) :
    ∃ (W2 : World) (cap : Nat), (convert 9 28 (.string s)).run Tryd.prog w1 = .ok (.slice (some ⟨w1.heap.size, 0, none⟩) s.size cap) W2 ∧ Below w1.heap.size w1 W2 ∧ w1.heap.size < W2.heap.size ∧ BytesAt W2 w1.heap.size l := by
  have hrun := run_bytes_of_string (P := Tryd.prog) w1 9 28 5 s Tryd.underlying9 Tryd.underlying28 Tryd.underlying5
  refine ⟨_, _, hrun, ((Below.refl _ _).drew).alloc (Nat.le_refl _) _, ?_, ?_, ?_⟩
  · show w1.heap.size < (w1.heap.push _).size
    simp
  · intro j h
    have := World.cell?_alloc_mark w1.drew (bytesRow s (grownCap w1 s.size 0 5)) 5 ((bytesRow s (grownCap w1 s.size 0 5)).size, (bytesRow s (grownCap w1 s.size 0 5)).size + 1) j
    refine Eq.trans this ?_
    have h1 : s.data.toList.length = s.data.size := Array.length_toList
    have h2 : l.length = s.data.toList.length := by rw [hl]
    have hs : j < s.data.size := by omega
    subst hl
    rw [bytesRow, Array.getElem?_append_left (by simpa using hs), Array.getElem?_map, Array.getElem?_eq_getElem hs]
    rfl
  · intro j h
    have h1 : s.data.toList.length = s.data.size := Array.length_toList
    have h2 : l.length = s.data.toList.length := by rw [hl]
    have hs : j < s.data.size := by omega
    have hsz : s.data.size ≤ (bytesRow s (grownCap w1 s.size 0 5)).size := by simp [bytesRow]
    have hb : (w1.drew.alloc (.cells (bytesRow s (grownCap w1 s.size 0 5)) 5 ((bytesRow s (grownCap w1 s.size 0 5)).size, (bytesRow s (grownCap w1 s.size 0 5)).size + 1))).heap[w1.heap.size]? = some (.cells (bytesRow s (grownCap w1 s.size 0 5)) 5 ((bytesRow s (grownCap w1 s.size 0 5)).size, (bytesRow s (grownCap w1 s.size 0 5)).size + 1)) := by
      show (w1.heap.push _)[w1.heap.size]? = _
      simp
    unfold World.frozen?
    rw [hb]
    simp
    omega

theorem conv_back (w : World) (g cap : Nat) (l : List UInt8) (h : BytesAt w g l) :
    (convert 28 9 (.slice (some ⟨g, 0, none⟩) l.length cap)).run Tryd.prog w = .ok (.string ⟨l.toArray⟩) w := by
  refine run_convert_bytes_back w 28 9 5 ⟨g, 0, none⟩ cap l Tryd.underlying28 Tryd.underlying5 Tryd.underlying9 ?_
  intro j hj
  have e : (⟨g, 0, none⟩ : Addr).add j = ⟨g, j, none⟩ := by unfold Addr.add; split <;> simp_all
  rw [e]
  exact h.cell j hj

namespace Crc
theorem wbyte_val (u k : Nat) : ((wbyte u k).toNat : Int) = (u : Int) / 2 ^ (8 * k) % 256 := by
  unfold wbyte
  rw [UInt8.toNat_ofNat_of_lt' (show u / 2 ^ (8 * k) % 256 < 256 from Nat.mod_lt _ (by omega)), Int.natCast_emod, Int.natCast_ediv, Int.natCast_pow]
  rfl
theorem wbyte_ne (u k : Nat) : (((u : Int) / 2 ^ (8 * k) % 256 != 0) : Bool) = (wbyte u k != 0) := by
  rw [← wbyte_val]
  by_cases h : wbyte u k = 0
  · rw [h]; rfl
  · have h2 : ((wbyte u k).toNat : Int) ≠ 0 := fun e => h (UInt8.toNat_inj.1 (by show (wbyte u k).toNat = 0; omega))
    rw [bne_iff_ne.2 h, bne_iff_ne.2 h2]
theorem turned_succ (l : List UInt8) (at' u k : Nat) : turned l at' u (k + 1) = (turned l at' u k).set (at' + k) ((turned l at' u k).getD (at' + k) 0 ^^^ wbyte u k) := rfl
end Crc
namespace Crc
theorem wval0 (u : Nat) : (u : Int) % 256 = ((wbyte u 0).toNat : Int) := by rw [wbyte_val]; simp
theorem wval1 (u : Nat) : (u : Int) / 256 % 256 = ((wbyte u 1).toNat : Int) := by rw [wbyte_val]; rfl
theorem wval2 (u : Nat) : (u : Int) / 65536 % 256 = ((wbyte u 2).toNat : Int) := by rw [wbyte_val]; rfl
theorem wval3 (u : Nat) : (u : Int) / 16777216 % 256 = ((wbyte u 3).toNat : Int) := by rw [wbyte_val]; rfl
end Crc
/-- A round of the loop is done. -/
theorem round_done (w wr : World) (g : Nat) (l : List UInt8) (at' u k : Nat) (b : Bool) (c : UInt8) (V n : Int) (B : Bool) (o : Nat) (size : Nat) (hk : k < 4) (hin : at' + k < size) (hlen : at' + k < l.length)
    (hn : n = ((k + 1 : Nat) : Int)) (ho : o = at' + k) (hV : V = ((Crc.wbyte u k).toNat : Int)) (hB : B = (b || V != 0)) (hU : b = Crc.unlike u k)
    (hW : BytesAt wr g (Crc.turned l at' u k)) (hc : c = (Crc.turned l at' u k).getD (at' + k) 0) (hbel : Below w.heap.size w wr) (hg : w.heap.size ≤ g) :
    ∃ (k' : Nat) (b' : Bool), k' ≤ 4 ∧ at' + k' ≤ size ∧ Value.int .i64 n = .int .i64 k' ∧ Value.bool B = .bool b' ∧ Hid (b' = Crc.unlike u k') ∧
      Hid (BytesAt (wr.setCell ⟨g, o, none⟩ (.int .u8 (bits .xor .u8 (c.toNat : Int) V))) g (Crc.turned l at' u k')) ∧
      Hid (Below w.heap.size w (wr.setCell ⟨g, o, none⟩ (.int .u8 (bits .xor .u8 (c.toNat : Int) V)))) := by
  subst ho hn
  refine ⟨k + 1, B, by omega, by omega, rfl, rfl, Lib.hid ?_, Lib.hid ?_, Lib.hid (hbel.setCell hg _)⟩
  · rw [hB, hU, hV]
    show _ = (Crc.unlike u k || (Crc.wbyte u k != 0))
    have := Crc.wbyte_ne u k
    rw [← Crc.wbyte_val] at this
    rw [this]
  · rw [hV, u8_xor_nat _ _ c.toNat_lt (Crc.wbyte u k).toNat_lt, ← UInt8.toNat_xor, hc]
    rw [Crc.turned_succ]
    exact hW.set _ (by rw [Crc.turned_length]; exact hlen) _
/-- A place within a text, out of whatever number. -/
theorem place_of (p : Int) (n : Nat) (hn : 0 < n) (hs : n ≤ 200000000000000) : ∃ a : Nat, a < n ∧ wrap64 ((IntKind.u64.wrap p).tmod (n : Int)) = (a : Int) := by
  have h0 : 0 ≤ IntKind.u64.wrap p := by rw [IntKind.wrap_u64]; omega
  have h1 := Int.emod_nonneg (IntKind.u64.wrap p) (b := (n : Int)) (by omega)
  have h2 := Int.emod_lt_of_pos (IntKind.u64.wrap p) (b := (n : Int)) (by omega)
  refine ⟨((IntKind.u64.wrap p) % (n : Int)).toNat, by omega, ?_⟩
  rw [Int.tmod_eq_emod_of_nonneg h0, IntWalk.wrap64_in _ ⟨by omega, by omega⟩]
  omega

theorem quiet_of_left {P : Program} {f : FuncId} {args : Array Value} {w : World} {n : Nat} {v : Value}
    (h : Calls P f args (w.drewN n) fun e w' => e = .returned v ∧ w.drewN n = w') : Calls P f args (w.drewN n) fun e w'' => e = .returned v ∧ ∃ m, w'' = w.drewN m :=
  h.mono fun _ _ ⟨he, hm⟩ => ⟨he, n, hm.symm⟩
theorem Nibs.drewN {w : World} (h : Nibs w) (n : Nat) : Nibs (w.drewN n) := h
set_option maxRecDepth 100000 in
set_option maxHeartbeats 2000000 in
theorem bursts_law (s : ByteArray) (l : List UInt8) (hl : s.data.toList = l) (hs : s.size ≤ 200000000000000) (p : Int) (u : Nat) (hu : u < 4294967296) (t : TypeId) (x : Value) (w : World) (hG : Glob w.heap.size w t x) :
    Calls Tryd.prog 4 #[.string s, .int .i64 p, .int .u32 (u : Int)] w fun e w' => e = .returned (.bool true) ∧ Below w.heap.size w w' := by
  have HL := Lib.hid hl
  have HG := Lib.hid hG
  have HSm := Lib.hid (show s.size ≤ maxLen by unfold maxLen; omega)
  have HSk := Lib.hid hs
  have HN := Lib.hid (size_of_data hl)
  clear hl hG
  by_cases h0 : s.size = 0
  · have hz : ((s.size : Int) == 0) = true := by rw [beq_iff_eq]; omega
    have hsum : Hid ((((Crc.sum s.data.toList).toNat : Nat) : Int) = 0) := Lib.hid (by
      rw [List.eq_nil_of_length_eq_zero (l := s.data.toList) (by rw [HL.out, HN.out]; exact h0)]
      decide)
    clear h0
    go_enter Tryd.func4, Tryd.ntmps4
    go_wp2_with fail
    refine (lives_any _ _ _ _ HG.out).mono ?_
    rintro e w1 ⟨rfl, hb⟩
    have HG1 := Lib.hid (HG.out.below hb)
    go_wp2_with fail
    refine (sum_any s HSm.out _ HG1.out.nib).mono ?_
    rintro e w2 ⟨rfl, rfl⟩
    rw [hsum.out]
    go_wp2
    go_ret
    exact ⟨rfl, hb⟩
  · have hz : ((s.size : Int) == 0) = false := by rw [beq_eq_false_iff_ne]; omega
    go_enter Tryd.func4, Tryd.ntmps4
    go_wp2_with fail
    refine (lives_any _ _ _ _ HG.out).mono ?_
    rintro e w1 ⟨rfl, hb⟩
    have HB1 := Lib.hid hb
    obtain ⟨W2, cap, hrun, hbb, hlt2, hba⟩ := bytes_new w1 s l HL.out
    have HB2 := Lib.hid (hb.trans (hbb.mono hb.size))
    have HA := Lib.hid hba
    obtain ⟨at', hat, hwp⟩ := place_of p s.size (by omega) HSk.out
    clear hb hbb hba
    go_wp2
    rw [hwp]
    clear hrun hwp hz
    go_loopw [8, 9] (fun d i wr => ∃ (k : Nat) (b : Bool), k ≤ 4 ∧ at' + k ≤ s.size ∧ i = .int .i64 k ∧ d = .bool b ∧ Hid (b = Crc.unlike u k) ∧ Hid (BytesAt wr w1.heap.size (Crc.turned l at' u k)) ∧ Hid (Below w.heap.size w wr)) (fun _ i _ => 4 - (intOf i).toNat)
    case atStart => exact ⟨0, false, by omega, by omega, rfl, rfl, Lib.hid rfl, HA, HB2⟩
    case round =>
      obtain ⟨k, b, hk, hak, rfl, rfl, HU, HW, HBw⟩ := hrel
      by_cases hgo : k < 4 ∧ at' + k < s.size
      · obtain ⟨hk4, hin⟩ := hgo
        obtain ⟨c, hc, hf, HC⟩ : ∃ c : UInt8, wr.cell? ⟨w1.heap.size, at' + k, none⟩ = some (.int .u8 (c.toNat : Int)) ∧ wr.frozen? ⟨w1.heap.size, at' + k, none⟩ = false ∧ Hid (c = (Crc.turned l at' u k).getD (at' + k) 0) := by
          have hlen : at' + k < (Crc.turned l at' u k).length := by rw [Crc.turned_length, HN.out]; exact hin
          exact ⟨_, HW.out.cell _ hlen, HW.out.free _ hlen, Lib.hid (by rw [List.getD_eq_getElem?_getD, List.getElem?_eq_getElem hlen]; rfl)⟩
        have hclt := c.toNat_lt
        rcases (by omega : k = 0 ∨ k = 1 ∨ k = 2 ∨ k = 3) with rfl | rfl | rfl | rfl
        · simp only [Nat.add_zero] at hc hf
          cases b
          · go_wp2
            exact ⟨round_done w wr w1.heap.size l at' u 0 false c _ _ _ _ s.size (by omega) hin (by rw [HN.out]; exact hin) rfl rfl (Crc.wval0 u) (Bool.false_or _).symm HU.out HW.out HC.out HBw.out HB1.out.size, by decide⟩
          · go_wp2
            exact ⟨round_done w wr w1.heap.size l at' u 0 true c _ _ _ _ s.size (by omega) hin (by rw [HN.out]; exact hin) rfl rfl (Crc.wval0 u) (Bool.true_or _).symm HU.out HW.out HC.out HBw.out HB1.out.size, by decide⟩
        · cases b
          · go_wp2
            exact ⟨round_done w wr w1.heap.size l at' u 1 false c _ _ _ _ s.size (by omega) hin (by rw [HN.out]; exact hin) rfl rfl (Crc.wval1 u) (Bool.false_or _).symm HU.out HW.out HC.out HBw.out HB1.out.size, by decide⟩
          · go_wp2
            exact ⟨round_done w wr w1.heap.size l at' u 1 true c _ _ _ _ s.size (by omega) hin (by rw [HN.out]; exact hin) rfl rfl (Crc.wval1 u) (Bool.true_or _).symm HU.out HW.out HC.out HBw.out HB1.out.size, by decide⟩
        · cases b
          · go_wp2
            exact ⟨round_done w wr w1.heap.size l at' u 2 false c _ _ _ _ s.size (by omega) hin (by rw [HN.out]; exact hin) rfl rfl (Crc.wval2 u) (Bool.false_or _).symm HU.out HW.out HC.out HBw.out HB1.out.size, by decide⟩
          · go_wp2
            exact ⟨round_done w wr w1.heap.size l at' u 2 true c _ _ _ _ s.size (by omega) hin (by rw [HN.out]; exact hin) rfl rfl (Crc.wval2 u) (Bool.true_or _).symm HU.out HW.out HC.out HBw.out HB1.out.size, by decide⟩
        · cases b
          · go_wp2
            exact ⟨round_done w wr w1.heap.size l at' u 3 false c _ _ _ _ s.size (by omega) hin (by rw [HN.out]; exact hin) rfl rfl (by rw [← Crc.wval3]; omega) (Bool.false_or _).symm HU.out HW.out HC.out HBw.out HB1.out.size, by decide⟩
          · go_wp2
            exact ⟨round_done w wr w1.heap.size l at' u 3 true c _ _ _ _ s.size (by omega) hin (by rw [HN.out]; exact hin) rfl rfl (by rw [← Crc.wval3]; omega) (Bool.true_or _).symm HU.out HW.out HC.out HBw.out HB1.out.size, by decide⟩
      · have hend : Hid (b = true ↔ Crc.sum l ≠ Crc.sum (Crc.turned l at' u k)) := Lib.hid (by rw [HU.out]; exact (Crc.burst_sum l at' u k hk (by rw [HN.out]; exact hak)).symm)
        have hconv : ∀ n : Nat, (convert 28 9 (.slice (some ⟨w1.heap.size, 0, none⟩) s.size cap)).run Tryd.prog (wr.drewN n) = .ok (.string ⟨(Crc.turned l at' u k).toArray⟩) (wr.drewN n) := fun n => by
          have hlen : (Crc.turned l at' u k).length = s.size := by rw [Crc.turned_length]; exact HN.out
          have := conv_back (wr.drewN n) w1.heap.size cap (Crc.turned l at' u k) ⟨fun j h => HW.out.cell j h, fun j h => HW.out.free j h⟩
          rw [hlen] at this
          exact this
        have hnib := Lib.hid (HG.out.below HBw.out).nib
        have hsz : Hid ((⟨(Crc.turned l at' u k).toArray⟩ : ByteArray).size ≤ maxLen) := Lib.hid (by
          have hlen : (Crc.turned l at' u k).length = s.size := by rw [Crc.turned_length]; exact HN.out
          show (Crc.turned l at' u k).toArray.size ≤ maxLen
          rw [List.size_toArray, hlen]; exact HSm.out)
        have hres : Hid ((b == (((Crc.sum s.data.toList).toNat : Int) != ((Crc.sum (Crc.turned l at' u k)).toNat : Int))) = true) := Lib.hid (by
          rw [HL.out, beq_iff_eq]
          rcases hend.out with ⟨h1, h2⟩
          cases b
          · have : Crc.sum l = Crc.sum (Crc.turned l at' u k) := Classical.byContradiction fun e => Bool.false_ne_true (h2 e)
            rw [this]; simp
          · have h3 := h1 rfl
            have : ((Crc.sum l).toNat : Int) ≠ ((Crc.sum (Crc.turned l at' u k)).toNat : Int) := fun e => h3 (BitVec.eq_of_toNat_eq (by omega))
            rw [bne_iff_ne.2 this])
        have hgo2 : (k : Int) < 4 → ¬ ((at' : Int) + (k : Int) < (s.size : Int)) := by omega
        by_cases hk4 : k = 4
        · subst hk4
          go_wp2
          have hs1 := fun n : Nat => quiet_of_left (sum_any s HSm.out (wr.drewN n) (hnib.out.drewN n))
          have hs2 := fun n : Nat => quiet_of_left (sum_any ⟨(Crc.turned l at' u _).toArray⟩ hsz.out (wr.drewN n) (hnib.out.drewN n))
          go_quiet ((go_at_call 10; first | exact hs1 _ | exact hs2 _))
          go_wp2
          rw [hres.out]
          go_ret
          exact ⟨rfl, below_drewN HBw.out _⟩
        · have hk5 : (k : Int) < 4 := by omega
          have hk6 : at' + k = s.size := by omega
          go_wp2
          have hs1 := fun n : Nat => quiet_of_left (sum_any s HSm.out (wr.drewN n) (hnib.out.drewN n))
          have hs2 := fun n : Nat => quiet_of_left (sum_any ⟨(Crc.turned l at' u _).toArray⟩ hsz.out (wr.drewN n) (hnib.out.drewN n))
          go_quiet ((go_at_call 10; first | exact hs1 _ | exact hs2 _))
          go_wp2
          rw [hres.out]
          go_ret
          exact ⟨rfl, below_drewN HBw.out _⟩
end Go.Proofs.YtnigkjpcccccbaaDoor
