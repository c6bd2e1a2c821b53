/- Layer 5: the walk of the law DiskApart. -/
import Derived.Test.YtepkjnhijocojaaDskT2
import Derived.Test.YtepkjnhijocojaaDskQ4
namespace Go.Proofs.Ytepkjnhijocojaa
open Go.RowKit Go.Maps Mem Dsk

def nKept : ByteArray := ⟨#[107, 101, 112, 116]⟩
theorem szKept : (⟨#[107, 101, 112, 116]⟩ : ByteArray).size ≤ maxLen := maxLen_small (by decide)
theorem snKept : sname ⟨#[107, 101, 112, 116]⟩ = [107, 101, 112, 116] := rfl
theorem ap1 : Dsk.create s0 [107, 101, 112, 116] = (sing [107, 101, 112, 116] [], 0) := rfl
def kept1 (K : List UInt8) : S := ⟨[⟨[107, 101, 112, 116], K, K⟩], false, 0⟩
theorem ap_sync (K : List UInt8) : Dsk.sync (sing [107, 101, 112, 116] K) [107, 101, 112, 116] = (kept1 K, 0) := rfl
theorem ap_inv (K : List UInt8) : Inv (kept1 K) [107, 101, 112, 116] K := ⟨rfl, rfl, rfl⟩
theorem Dsk.Inv.step {s : S} {k : Name} {K : List UInt8} (h : Inv s k K) (kind : Int) (a z : Name) (n : Int) (b : List UInt8) (ha : a ≠ k) (hz : kind = 3 → z ≠ k) : Inv (doStep s kind a z n b).1 k K := by
  unfold doStep
  split
  · exact h.create ha
  · split
    · exact h.remove ha
    · split
      · rename_i e; exact h.rename ha (hz e)
      · split
        · exact h.write ha n b
        · split
          · exact h.cut ha n
          · exact h.sync ha
theorem sname_list (s : ByteArray) : s.toList = sname s := Lib.toList_data s
def ApRel (B p : Nat) (w : World) (K : List UInt8) (uv kv : Value) (wr : World) : Prop :=
  ∃ (k : Nat) (u : Int) (s : S), kv = .int .i64 k ∧ uv = .int .i64 u ∧ D B p s wr ∧ Inv s [107, 101, 112, 116] K ∧ Below B w wr
set_option maxRecDepth 100000 in
set_option maxHeartbeats 4000000 in
theorem diskApart_walk {w : World} (A : Option Addr) (ca : Nat) (ops : List OpR) (hops : Script w.heap.size w A ops)
    (Bd : Option Addr) (cb : Nat) (bs : List UInt8) (hbc : bs.length ≤ cb) (_ : cb ≤ maxLen) (hsb : Sl fB w Bd bs) (_ : ∀ x ∈ bs, True) (hrb : Room 1 bs.length) :
    Calls Try.prog 7 #[.slice A ops.length ca, .slice Bd bs.length cb] w fun e w' => e = .returned (.bool true) ∧ Below w.heap.size w w' := by
  have hlb := hsb.len
  have hlo := hops.1
  unfold maxLen at hlo
  have HOPS := Lib.hid hops; clear hops
  go_enter Try.func7, Try.ntmps7
  go_wp2_with fail
  (with_reducible refine (L_New w w.heap.size (Nat.le_refl _)).mono ?_); rintro e w1 ⟨p, rfl, hd1, hp, hb1⟩
  go_wp2_with fail
  (with_reducible refine (alive_any w1).mono ?_); rintro e w2 ⟨rfl, hb2⟩
  have hd2 := hd1.below hb2
  have HB2 : Hid (Below w.heap.size w w2) := hb1.trans (hb2.mono hb1.size)
  clear hb1 hb2 hd1
  go_upto_if 20 with fail
  go_cut [1] (fun s1 wx => ∃ bs' : List UInt8, s1 = .slice Bd bs'.length cb ∧ Sl fB w Bd bs' ∧ bs'.length ≤ 1000 ∧ wx = w2)
  case first =>
    by_cases h5 : 1000 < bs.length
    · have h5c : 1000 ≤ cb := by omega
      have e5 : (bs.take 1000).length = 1000 := by rw [List.length_take]; omega
      have E5 := Lib.hid e5; clear e5
      go_wp2_with fail
      go_meet
      exact ⟨bs.take 1000, by rw [E5.out], hsb.pre, by rw [E5.out]; exact Nat.le_refl _, rfl⟩
    · go_wp2_with fail
      go_meet
      exact ⟨bs, rfl, hsb, by omega, rfl⟩
  case rest =>
    obtain ⟨K, rfl, hsK, hlK, rfl⟩ := hcut
    obtain ⟨te, hK⟩ := hsK.old
    clear hsb hbc hlb hsK hrb
    go_wp2_with fail
    (with_reducible refine (L_Create hd2 _ szKept (s' := sing [107, 101, 112, 116] []) (k := 0) (ki := 0) (by rw [snKept]; exact ap1) rfl).mono ?_); rintro e w3 ⟨rfl, hd3, hb3⟩
    have HB3 : Hid (Below w.heap.size w w3) := HB2.out.trans hb3
    clear HB2 hb3 hd2
    go_wp2_with fail
    (with_reducible refine (L_Write hd3 _ szKept _ (by decide) (hK.under HB3.out) (Nat.not_lt.2 hd3.ge) (s' := sing [107, 101, 112, 116] K) (k := 0) (ki := 0) (by rw [snKept]; have := one_write (nm := [107, 101, 112, 116]) (b := []) (c := K) (k := 0) (by decide) (Nat.le_refl _) (by omega); rw [over_zero] at this; simpa using this) rfl).mono ?_); rintro e w4 ⟨rfl, hd4, hb4⟩
    have HB4 : Hid (Below w.heap.size w w4) := HB3.out.trans hb4
    clear HB3 hb4 hd3
    go_wp2_with fail
    (with_reducible refine (L_Sync hd4 _ szKept (s' := kept1 K) (k := 0) (ki := 0) (by rw [snKept]; exact ap_sync K) rfl).mono ?_); rintro e w5 ⟨rfl, hd5, hb5⟩
    have HB5 : Hid (Below w.heap.size w w5) := HB4.out.trans hb5
    clear HB4 hb5 hd4
    go_wp2_with fail
    go_loopw [6, 32] (fun uv kv wr => ApRel w.heap.size p w K uv kv wr) (fun _ kv _ => ops.length - (intOf kv).toNat)
    case atStart => exact ⟨0, 0, kept1 K, rfl, rfl, hd5, ap_inv K, HB5.out⟩
    case round =>
      obtain ⟨k, u, s, rfl, rfl, hd, hinv, hb⟩ := hrel
      have HB := Lib.hid hb; clear hb
      have HINV := Lib.hid hinv; clear hinv
      by_cases hlt : k < ops.length
      · have hops := HOPS.out.under HB.out
        obtain ⟨b, o, rfl, hbB, hcell⟩ := hops.at hlt
        have hok := hops.ok hlt
        clear hops
        obtain ⟨op, hop⟩ : ∃ op, op = ops[k] := ⟨_, rfl⟩
        rw [← hop] at hcell hok
        clear hop
        have HOK := Lib.hid hok; clear hok
        obtain ⟨kind, a, z, n, oA, oc, obs, oK, od, okeep⟩ := op
        have i0 : wr.cell? ⟨b, o + k * 6, none⟩ = some (.int .i64 kind) := hcell 0 (by decide)
        have i1 : wr.cell? ⟨b, o + k * 6 + 1, none⟩ = some (.string a) := hcell 1 (by decide)
        have i2 : wr.cell? ⟨b, o + k * 6 + 2, none⟩ = some (.string z) := hcell 2 (by decide)
        have i3 : wr.cell? ⟨b, o + k * 6 + 3, none⟩ = some (.int .i64 n) := hcell 3 (by decide)
        have i4 : wr.cell? ⟨b, o + k * 6 + 4, none⟩ = some (.slice oA obs.length oc) := hcell 4 (by decide)
        have i5 : wr.cell? ⟨b, o + k * 6 + 5, none⟩ = some (.slice oK okeep.length od) := hcell 5 (by decide)
        clear hcell
        have hab : Below wr.heap.size wr (wr.alloc (.cells #[.int .i64 kind, .string a, .string z, .int .i64 n, .slice oA obs.length oc, .slice oK okeep.length od] 45)) := (Below.refl _ _).alloc (Nat.le_refl _) _
        have hda := hd.below hab
        have HBA : Hid (Below w.heap.size w (wr.alloc (.cells #[.int .i64 kind, .string a, .string z, .int .i64 n, .slice oA obs.length oc, .slice oK okeep.length od] 45))) := HB.out.trans (hab.mono HB.out.size)
        have HOKA : Hid (OpOK w.heap.size (wr.alloc (.cells #[.int .i64 kind, .string a, .string z, .int .i64 n, .slice oA obs.length oc, .slice oK okeep.length od] 45)) ⟨kind, a, z, n, oA, oc, obs, oK, od, okeep⟩) := HOK.out.under (hab.mono HB.out.size)
        clear hab hd HOK
        by_cases ca1 : a.toList = [107, 101, 112, 116]
        · go_wp2_with fail
          go_roundw
          case rel => exact ⟨k + 1, _, s, by go_num, rfl, hda, HINV.out, HBA.out⟩
          case measure => simp [intOf]; omega
        have ca1b : (a.toList == [107, 101, 112, 116]) = false := by simpa using ca1
        have HA : Hid (sname a ≠ [107, 101, 112, 116]) := by show _ ≠ _; rw [← sname_list]; exact ca1
        by_cases ck3 : kind = 3 ∧ z.toList = [107, 101, 112, 116]
        · obtain ⟨rfl, cz⟩ := ck3
          go_wp2_with fail
          go_roundw
          case rel => exact ⟨k + 1, _, s, by go_num, rfl, hda, HINV.out, HBA.out⟩
          case measure => simp [intOf]; omega
        have HZ : Hid (kind = 3 → sname z ≠ [107, 101, 112, 116]) := fun e1 e2 => ck3 ⟨e1, by rw [sname_list]; exact e2⟩
        have hinvS := fun n' => HINV.out.step kind (sname a) (sname z) n' obs HA.out HZ.out
        by_cases cu : 20000 < wrap64 (u + (obs.length : Int))
        · by_cases k3 : kind = 3
          · subst k3
            have cz : ¬ z.toList = [107, 101, 112, 116] := fun e => ck3 ⟨rfl, e⟩
            have czb : (z.toList == [107, 101, 112, 116]) = false := by simpa using cz
            go_wp2_with fail
            go_roundw
            case rel => exact ⟨k + 1, _, s, by go_num, rfl, hda, HINV.out, HBA.out⟩
            case measure => simp [intOf]; omega
          · have k3b : (kind == 3) = false := by simpa using k3
            go_wp2_with fail
            go_roundw
            case rel => exact ⟨k + 1, _, s, by go_num, rfl, hda, HINV.out, HBA.out⟩
            case measure => simp [intOf]; omega
        by_cases k16 : 1 ≤ kind ∧ kind ≤ 6
        · obtain ⟨k1, k6⟩ := k16
          have hst : Calls Try.prog 23 #[.pointer (some ⟨p, 0, none⟩), .agg #[.int .i64 kind, .string a, .string z, .int .i64 n, .slice oA obs.length oc, .slice oK okeep.length od]] _ _ := step_walk hda ⟨kind, a, z, n, oA, oc, obs, oK, od, okeep⟩ HOKA.out (prod_eta _)
          have HST := Lib.hid hst; clear hst
          have HIS := Lib.hid (hinvS n); clear hinvS
          clear hda
          by_cases k3 : kind = 3
          · subst k3
            have cz : ¬ z.toList = [107, 101, 112, 116] := fun e => ck3 ⟨rfl, e⟩
            have czb : (z.toList == [107, 101, 112, 116]) = false := by simpa using cz
            go_wp2_with fail
            (with_reducible refine HST.out.mono ?_); rintro e w6 ⟨rfl, hd6, hb6⟩
            have HB6 := Lib.hid (HBA.out.trans hb6)
            have HINV6 := HIS
            clear hb6 HST HBA HB
            go_wp2_with fail
            (with_reducible refine (L_Read hd6 _ szKept (bs := K) (k := 0) (ki := 0) (by rw [snKept]; exact HINV6.out.read (by decide)) rfl).mono ?_); rintro e w7 ⟨A7, c7, rfl, hs7, hc7, _, hd7, hb7⟩
            have HB7 := Lib.hid (HB6.out.trans (hb7.mono HB6.out.size))
            have hsb7 := SameBytes_any A7 Bd c7 cb K K w7 hs7.sl (hK.under HB7.out).sl
            have HSB7 := Lib.hid hsb7; clear hsb7 hs7 hb7
            go_wp2_with fail
            (with_reducible refine HSB7.out.mono ?_); rintro e w8 ⟨rfl, k8, rfl⟩
            go_wp2_with fail
            go_roundw
            case rel => exact ⟨k + 1, _, _, by go_num, rfl, hd7.below (below_drewN (Below.refl _ _) k8), HINV6.out, below_drewN HB7.out k8⟩
            case measure => simp [intOf]; omega
          · have k3b : (kind == 3) = false := by simpa using k3
            go_wp2_with fail
            (with_reducible refine HST.out.mono ?_); rintro e w6 ⟨rfl, hd6, hb6⟩
            have HB6 := Lib.hid (HBA.out.trans hb6)
            have HINV6 := HIS
            clear hb6 HST HBA HB
            go_wp2_with fail
            (with_reducible refine (L_Read hd6 _ szKept (bs := K) (k := 0) (ki := 0) (by rw [snKept]; exact HINV6.out.read (by decide)) rfl).mono ?_); rintro e w7 ⟨A7, c7, rfl, hs7, hc7, _, hd7, hb7⟩
            have HB7 := Lib.hid (HB6.out.trans (hb7.mono HB6.out.size))
            have hsb7 := SameBytes_any A7 Bd c7 cb K K w7 hs7.sl (hK.under HB7.out).sl
            have HSB7 := Lib.hid hsb7; clear hsb7 hs7 hb7
            go_wp2_with fail
            (with_reducible refine HSB7.out.mono ?_); rintro e w8 ⟨rfl, k8, rfl⟩
            go_wp2_with fail
            go_roundw
            case rel => exact ⟨k + 1, _, _, by go_num, rfl, hd7.below (below_drewN (Below.refl _ _) k8), HINV6.out, below_drewN HB7.out k8⟩
            case measure => simp [intOf]; omega
        · clear hinvS
          have k3 : ¬ kind = 3 := fun e => k16 (by omega)
          have k3b : (kind == 3) = false := by simpa using k3
          by_cases k9 : kind = 9
          · subst k9
            obtain ⟨tk, hkk⟩ := HOKA.out.keep
            have hcr := L_Crash (c := od) hda hkk (.inr (fun _ h => h)) (s' := Dsk.crash s okeep) rfl
            have HCR := Lib.hid hcr; clear hcr hda hkk
            go_wp2_with fail
            (with_reducible refine HCR.out.mono ?_); rintro e w6 ⟨rfl, hd6, hb6⟩
            have HB6 := Lib.hid (HBA.out.trans hb6)
            have HINV6 := Lib.hid (HINV.out.crash okeep)
            clear hb6 HCR HBA HB
            go_wp2_with fail
            (with_reducible refine (L_Read hd6 _ szKept (bs := K) (k := 0) (ki := 0) (by rw [snKept]; exact HINV6.out.read (by decide)) rfl).mono ?_); rintro e w7 ⟨A7, c7, rfl, hs7, hc7, _, hd7, hb7⟩
            have HB7 := Lib.hid (HB6.out.trans (hb7.mono HB6.out.size))
            have hsb7 := SameBytes_any A7 Bd c7 cb K K w7 hs7.sl (hK.under HB7.out).sl
            have HSB7 := Lib.hid hsb7; clear hsb7 hs7 hb7
            go_wp2_with fail
            (with_reducible refine HSB7.out.mono ?_); rintro e w8 ⟨rfl, k8, rfl⟩
            go_wp2_with fail
            go_roundw
            case rel => exact ⟨k + 1, _, _, by go_num, rfl, hd7.below (below_drewN (Below.refl _ _) k8), HINV6.out, below_drewN HB7.out k8⟩
            case measure => simp [intOf]; omega
          · have k9b : (kind == 9) = false := by simpa using k9
            have hd6 := hda
            have HB6 := HBA
            have HINV6 := HINV
            clear hda HBA HB HINV
            have k16b : ¬ (1 ≤ kind) ∨ ¬ (kind ≤ 6) := by omega
            rcases k16b with k16b | k16b
            all_goals
              go_wp2_with fail
              (with_reducible refine (L_Read hd6 _ szKept (bs := K) (k := 0) (ki := 0) (by rw [snKept]; exact HINV6.out.read (by decide)) rfl).mono ?_); rintro e w7 ⟨A7, c7, rfl, hs7, hc7, _, hd7, hb7⟩
              have HB7 := Lib.hid (HB6.out.trans (hb7.mono HB6.out.size))
              have hsb7 := SameBytes_any A7 Bd c7 cb K K w7 hs7.sl (hK.under HB7.out).sl
              have HSB7 := Lib.hid hsb7; clear hsb7 hs7 hb7
              go_wp2_with fail
              (with_reducible refine HSB7.out.mono ?_); rintro e w8 ⟨rfl, k8, rfl⟩
              go_wp2_with fail
              go_roundw
              case rel => exact ⟨k + 1, _, _, by go_num, rfl, hd7.below (below_drewN (Below.refl _ _) k8), HINV6.out, below_drewN HB7.out k8⟩
              case measure => simp [intOf]; omega
      · go_wp2_with fail
        go_ret
        exact ⟨rfl, HB.out⟩
end Go.Proofs.Ytepkjnhijocojaa
