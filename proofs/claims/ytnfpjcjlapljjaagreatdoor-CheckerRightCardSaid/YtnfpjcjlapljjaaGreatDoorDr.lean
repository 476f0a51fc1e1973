/- Walks: law 54's plain, law 18's Fits, checker's Speaks at a sound that is not right. -/
import Derived.Test.YtnfpjcjlapljjaaGreatDoorDp
namespace Go.Proofs.YtnfpjcjlapljjaaGreatDoor
open Go Go.RowKit Go.Shelf
open Org
theorem snd_open {F : Nat → Prop} {w : World} {cs : List Value} {s : Snd} (h : SndC F w cs s) : ∃ (Ar Ad Ac As Ak : Option Addr) (nr cr nd cd nc cc ns c4 nk ck : Nat), cs = [.string s.o.name, .slice Ar nr cr, .slice Ad nd cd, .slice Ac nc cc, .slice As ns c4, .int .u64 (s.r.cpl : Int), .int .u64 (s.r.off : Int), .slice Ak nk ck, .int .i64 s.rank, .int .i64 s.num] := by
  obtain ⟨vr, vd, vc, vs, vk, rfl, hR, hD, hC, hS, hK⟩ := h
  obtain ⟨Ar, cr, rfl, -⟩ := Sl.openF hR
  obtain ⟨Ad, cd, rfl, -⟩ := Sl.openF hD
  obtain ⟨Ac, cc, rfl, -⟩ := Sl.openF hC
  obtain ⟨As, cs, rfl, -⟩ := Sl.openF hS
  obtain ⟨Ak, ck, rfl, -⟩ := Sl.openF hK
  exact ⟨_, _, _, _, _, _, _, _, _, _, _, _, _, _, _, rfl⟩
set_option maxRecDepth 100000 in
set_option maxHeartbeats 1000000 in
theorem plain54_any (s : Snd) (cs : List Value) (w : World) (F : Nat → Prop) (hC : SndC F w cs s) :
    Calls Tryz.prog 7 #[.agg cs.toArray] w fun e w' => e = .returned (.agg cs.toArray) ∧ Below w.heap.size w w' := by
  obtain ⟨Ar, Ad, Ac, As, Ak, nr, cr, nd, cd, nc, cc, ns, c4, nk, ck, rfl⟩ := snd_open hC
  clear hC
  go_enter Tryz.func7, Tryz.ntmps7
  go_wp2_with fail
  refine bodyPost_ret (v := .agg #[.string s.o.name, .slice Ar nr cr, .slice Ad nd cd, .slice Ac nc cc, .slice As ns c4, .int .u64 (s.r.cpl : Int), .int .u64 (s.r.off : Int), .slice Ak nk ck, .int .i64 s.rank, .int .i64 s.num]) (by simp [results, Tryz.f7, go_sem]) rfl ?_
  exact ⟨rfl, Ba (Ba (B0 w) _) _⟩
set_option maxRecDepth 100000 in
set_option maxHeartbeats 1000000 in
theorem speaks_not (s : Snd) (hn : s.Num) (hr : rightF s = false) (cs : List Value) (w : World) (F : Nat → Prop) (hF : ∀ c, F c → c < w.heap.size) (hC : SndC F w cs s) :
    Calls Tryz.prog 11 #[.agg cs.toArray] w fun e w' => e = .returned (.bool false) ∧ Below w.heap.size w w' := by
  obtain ⟨Ar, Ad, Ac, As, Ak, nr, cr, nd, cd, nc, cc, ns, c4, nk, ck, rfl⟩ := snd_open hC
  have HR := Lib.hid (fun W (hb : Below w.heap.size w W) => right_any s hn _ W F (fun c hc => Nat.lt_of_lt_of_le (hF c hc) hb.size) (relSnd.keep hC (Agree.below hb hF)))
  rw [hr] at HR
  clear hC hr
  go_enter Tryz.func11, Tryz.ntmps11
  go_wp2_with (go_at_call 10; (with_reducible refine ((HR.out _ (Ba (B0 w) _)).mono ?_)); rintro e w2 ⟨rfl, hb2⟩; have HB2 := Lib.hid (Bt (Ba (B0 w) _) hb2); clear hb2)
  go_ret
  exact ⟨rfl, HB2.out⟩
namespace Org
def fitsB (x : Pn) : Bool := decide (1 ≤ x.ranks.length) && decide (x.ranks.length ≤ 3) && (decide (1 ≤ x.divs.length) && decide (x.divs.length ≤ 3)) && decide (x.cpls.length ≤ 3) && x.divs.all fun d => decide (d.stops.length ≤ 3)
theorem fitsB_fits {x : Pn} (h : fitsB x = true) : x.Fits := by
  unfold fitsB at h
  simp only [Bool.and_eq_true, decide_eq_true_eq] at h
  obtain ⟨⟨⟨⟨h1, h2⟩, h3, h4⟩, h5⟩, h6⟩ := h
  exact ⟨h1, h2, h3, h4, h5, fun d hd => by have := List.all_eq_true.1 h6 d hd; simpa using this⟩
end Org
set_option maxRecDepth 100000 in
set_option maxHeartbeats 2000000 in
theorem fits_any (x : Pn) (vr vd vc : Value) (w : World) (F : Nat → Prop) (hF : ∀ c, F c → c < w.heap.size) (hR : Sl F 9 P14C w vr x.ranks) (hD : Sl F 4 (BdC F) w vd x.divs) (hC : Sl F 4 LnkC w vc x.cpls) :
    Calls Tryz.prog 5 #[.agg #[vr, vd, vc]] w fun e w' => e = .returned (.bool (fitsB x)) ∧ Below w.heap.size w w' := by
  obtain ⟨Ar, cr, rfl, -⟩ := Sl.openF hR
  obtain ⟨Ad, cd, rfl, hcd, -, hatd⟩ := Sl.openF hD
  obtain ⟨Ac, cc, rfl, -⟩ := Sl.openF hC
  have HAT := Lib.hid (fun k (hk : k < x.divs.length) W (hb : Below w.heap.size w W) => show ∃ ad As cs, Ad = some ad ∧ W.cell? ⟨(ad.add (k * 4)).block, (ad.add (k * 4)).off + 3, none⟩ = some (.slice As x.divs[k].stops.length cs) from by
    obtain ⟨ad, cs, e, hFa, -, ⟨vs, rfl, hst⟩, hfl⟩ := hatd k hk
    obtain ⟨As, c9, rfl, -⟩ := Sl.openF hst
    exact ⟨ad, As, c9, e, (hfl.below hb (by rw [block_of_add]; exact hF _ hFa)).fs 2 rfl⟩)
  obtain ⟨FB, hFB⟩ : ∃ f, fitsB x = f := ⟨_, rfl⟩
  rw [hFB]
  unfold fitsB at hFB
  obtain ⟨n1, hn1⟩ : ∃ n, x.ranks.length = n := ⟨_, rfl⟩
  obtain ⟨n2, hn2⟩ : ∃ n, x.divs.length = n := ⟨_, rfl⟩
  obtain ⟨n3, hn3⟩ : ∃ n, x.cpls.length = n := ⟨_, rfl⟩
  rw [hn1, hn2, hn3] at hFB
  have HN2 := Lib.hid hn2
  rw [hn1, hn2, hn3]
  rw [hn2] at hcd
  clear hatd hR hD hC hn1 hn2 hn3
  obtain ⟨w1, hw1⟩ : ∃ w1 : World, w.alloc (.cells #[.slice Ar n1 cr, .slice Ad n2 cd, .slice Ac n3 cc] 26) = w1 := ⟨_, rfl⟩
  obtain ⟨b, hb⟩ : ∃ b, w.heap.size = b := ⟨_, rfl⟩
  have C1 : Blk w1 b 26 #[.slice Ar n1 cr, .slice Ad n2 cd, .slice Ac n3 cc] := by rw [← hw1, ← hb]; exact Blk.new _ _ _
  have HB1 : Hid (Below w.heap.size w w1) := Lib.hid (by rw [← hw1]; exact Ba (B0 w) _)
  have p0 : w1.cell? ⟨b, 0, none⟩ = some (.slice Ar n1 cr) := C1.cell 0
  have p1 : w1.cell? ⟨b, 1, none⟩ = some (.slice Ad n2 cd) := C1.cell 1
  have p2 : w1.cell? ⟨b, 2, none⟩ = some (.slice Ac n3 cc) := C1.cell 2
  have HW1 := Lib.hid hw1
  have HBB := Lib.hid hb
  clear hw1 hb C1
  go_enter Tryz.func5, Tryz.ntmps5
  go_upto_region 1 with fail
  rw [HW1.out, HBB.out]
  by_cases c1 : 1 ≤ n1
  rotate_left
  · have HX : Hid (FB = false) := Lib.hid (by rw [← hFB]; simp [c1])
    have a1 : (n1 : Int) < 1 := by omega
    have a1N : n1 < 1 := by omega
    have a1Z : n1 = 0 := by omega
    clear hFB
    go_wp2_with fail
    go_ret
    exact ⟨by rw [HX.out]; rfl, HB1.out⟩
  have a1 : ¬ (n1 : Int) < 1 := by omega
  have a1N : ¬ n1 < 1 := by omega
  have a1Z : ¬ n1 = 0 := by omega
  by_cases c2 : n1 ≤ 3
  rotate_left
  · have HX : Hid (FB = false) := Lib.hid (by rw [← hFB]; simp [c2])
    have a2 : (3 : Int) < (n1 : Int) := by omega
    have a2N : 3 < n1 := by omega
    have a2J : ¬ (n1 : Int) ≤ 3 := by omega
    clear hFB
    go_wp2_with fail
    go_ret
    exact ⟨by rw [HX.out]; rfl, HB1.out⟩
  have a2 : ¬ (3 : Int) < (n1 : Int) := by omega
  have a2N : ¬ 3 < n1 := by omega
  have a2J : (n1 : Int) ≤ 3 := by omega
  by_cases c3 : 1 ≤ n2
  rotate_left
  · have HX : Hid (FB = false) := Lib.hid (by rw [← hFB]; simp [c3])
    have a3 : (n2 : Int) < 1 := by omega
    have a3N : n2 < 1 := by omega
    have a3Z : n2 = 0 := by omega
    clear hFB
    go_wp2_with fail
    go_ret
    exact ⟨by rw [HX.out]; rfl, HB1.out⟩
  have a3 : ¬ (n2 : Int) < 1 := by omega
  have a3N : ¬ n2 < 1 := by omega
  have a3Z : ¬ n2 = 0 := by omega
  by_cases c4 : n2 ≤ 3
  rotate_left
  · have HX : Hid (FB = false) := Lib.hid (by rw [← hFB]; simp [c4])
    have a4 : (3 : Int) < (n2 : Int) := by omega
    have a4N : 3 < n2 := by omega
    have a4J : ¬ (n2 : Int) ≤ 3 := by omega
    clear hFB
    go_wp2_with fail
    go_ret
    exact ⟨by rw [HX.out]; rfl, HB1.out⟩
  have a4 : ¬ (3 : Int) < (n2 : Int) := by omega
  have a4N : ¬ 3 < n2 := by omega
  have a4J : (n2 : Int) ≤ 3 := by omega
  by_cases c5 : n3 ≤ 3
  rotate_left
  · have HX : Hid (FB = false) := Lib.hid (by rw [← hFB]; simp [c5])
    have a5 : (3 : Int) < (n3 : Int) := by omega
    have a5N : 3 < n3 := by omega
    have a5J : ¬ (n3 : Int) ≤ 3 := by omega
    clear hFB
    go_wp2_with fail
    go_ret
    exact ⟨by rw [HX.out]; rfl, HB1.out⟩
  have a5 : ¬ (3 : Int) < (n3 : Int) := by omega
  have a5N : ¬ 3 < n3 := by omega
  have a5J : (n3 : Int) ≤ 3 := by omega

  have HFB : Hid (FB = x.divs.all fun d => decide (d.stops.length ≤ 3)) := Lib.hid (by rw [← hFB]; simp [c1, c2, c3, c4, c5])
  clear hFB
  go_upto_region 4 with fail
  clear a1 a1N a1Z a2 a2N a2J a3 a3N a3Z a4 a4N a4J a5 a5N a5J
  go_loopg [3] n2 (fun gg s3 wr => ∃ (k : Nat), k ≤ n2 ∧ n2 - k ≤ gg ∧ s3 = .int .i64 (k : Int) ∧ Aside (∀ j (h : j < x.divs.length), j < k → decide (x.divs[j].stops.length ≤ 3) = true) ∧ wr = w1)
  case atStart => exact ⟨0, by omega, by omega, rfl, (fun j _ h => absurd h (by omega)), rfl⟩
  case round =>
    obtain ⟨k, hk, hg, rfl, hA, rfl⟩ := hrel
    replace hA : ∀ j (h : j < x.divs.length), j < k → decide (x.divs[j].stops.length ≤ 3) = true := hA
    have HA := Lib.hid hA
    by_cases hlt : k < n2
    · have hkI : (k : Int) < (n2 : Int) := by omega
      have hkd : decide ((k : Int) < (n2 : Int)) = true := decide_eq_true hkI
      have hkl : k < x.divs.length := by rw [HN2.out]; exact hlt
      obtain ⟨ad, As, cs, eA, hel⟩ := HAT.out k hkl wr HB1.out
      subst eA
      obtain ⟨p, hpA⟩ : ∃ p, ad.add (k * 4) = p := ⟨_, rfl⟩
      rw [hpA] at hel
      obtain ⟨ls, hls⟩ : ∃ n, x.divs[k].stops.length = n := ⟨_, rfl⟩
      rw [hls] at hel
      have HLS := Lib.hid hls
      clear hA hls
      by_cases h3 : ls ≤ 3
      · have b1 : ¬ (3 : Int) < (ls : Int) := by omega
        have b1J : (ls : Int) ≤ 3 := by omega
        go_wp2_with fail
        go_roundg (n2 - (k + 1))
        case measure => omega
        case rel =>
          exact ⟨k + 1, by omega, by omega, by go_num, (fun i h hi => by
            by_cases e : i = k
            · subst e; rw [HLS.out]; exact decide_eq_true h3
            · exact HA.out i h (by omega)), rfl⟩
      · have b1 : (3 : Int) < (ls : Int) := by omega
        have b1J : ¬ (ls : Int) ≤ 3 := by omega
        have HX : Hid (FB = false) := Lib.hid (by rw [HFB.out]; exact all_falseO k hkl (by rw [HLS.out]; exact decide_eq_false h3))
        go_wp2_with fail
        go_ret
        exact ⟨by rw [HX.out]; rfl, HB1.out⟩
    · obtain rfl : n2 = k := by omega
      have hkd : decide ((n2 : Int) < (n2 : Int)) = false := decide_eq_false (by omega)
      have HX : Hid (FB = true) := Lib.hid (by rw [HFB.out]; exact all_trueO fun j h => hA j h (by rw [← HN2.out]; exact h))
      clear hA
      go_wp2_with fail
      go_ret
      exact ⟨by rw [HX.out]; rfl, HB1.out⟩
end Go.Proofs.YtnfpjcjlapljjaaGreatDoor
