/- The known examples of trovelaw13 hold. No condition. -/
import Derived.Test.YtpfjkappgdpfbaaDelZ
import Derived.Test.YtpfjkappgdpfbaaDelA
import Derived.Test.YtpfjkappgdpfbaaDelV
namespace Go.Proofs.Ytpfjkappgdpfbaa
open Go.RowKit
set_option maxRecDepth 100000
set_option maxHeartbeats 8000000
def kbase : List UInt8 := [97, 98, 99, 100]
def ktext : List UInt8 := [97, 98, 99, 100, 120, 121]
def kdelta : List UInt8 := [4, 6, 144, 4, 2, 120, 121]
def kops : List DOp := [⟨true, 0, 4, []⟩, ⟨false, 0, 0, [120, 121]⟩]
theorem kdelta_is : kdelta = putSize 4 ++ putSize 6 ++ encs kops := by
  have h4 : putSize 4 = [4] := by rw [putSize]; rfl
  have h6 : putSize 6 = [6] := by rw [putSize]; rfl
  rw [h4, h6]; decide
theorem kops_ok : ∀ o ∈ kops, okOp o := by decide
theorem kdeltaR : deltaR kdelta = (4, 6, kops, 0) := by
  rw [kdelta_is]
  exact (deltaR_print 4 6 (by decide) (by decide) kops kops_ok).2
theorem kapply : applyD kbase kdelta 100 = (ktext, 0) := by
  unfold applyD
  rw [kdeltaR]
  decide
theorem kprint : printR 4 6 kops = (kdelta, 0) := by
  unfold printR
  rw [if_neg (by have := kops_ok; simp; exact this), kdelta_is]; rfl
theorem bs_lit {W : World} {b : Nat} {cs : Array Value} {T : Nat} {fr : Nat × Nat} {l : List UInt8} (h : W.heap[b]? = some (.cells cs T fr)) (hc : cs = (bvs l).toArray) : Bs W (some ⟨b, 0, none⟩) l :=
  Sl.of_block h (fun j v hj => by subst hc; simpa using hj)
theorem k33 (W : World) (A A1 : Option Addr) (h : Bs W A kbase) (h1 : Bs W A1 kdelta) : Calls Try.prog 33 #[.slice A 4 4, .slice A1 7 7, .int .i64 100] W (Out2 (ktext, 0) W) := by
  have := apply_any A 4 kbase A1 7 kdelta 100 W (by decide) (by decide) h (by decide) (by decide) h1 (by decide)
  rw [kapply] at this
  exact this
theorem k33b (W : World) (A A1 : Option Addr) (n c : Nat) (d : List UInt8) (h : Bs W A kbase) (h1 : Bs W A1 d) (hn : n = d.length) (hc : n ≤ c) (hl : d.length ≤ 2000000) (hd : applyD kbase d 100 = (ktext, 0)) : Calls Try.prog 33 #[.slice A 4 4, .slice A1 n c, .int .i64 100] W (Out2 (ktext, 0) W) := by
  subst hn
  have := apply_any A 4 kbase A1 c d 100 W (by decide) (by decide) h (by omega) hc h1 (by decide)
  rw [hd] at this
  exact this
theorem k29 (W : World) (A1 : Option Addr) (h1 : Bs W A1 kdelta) : Calls Try.prog 29 #[.slice A1 7 7] W fun e w' => ∃ v, e = .returned (.tuple #[.int .i64 4, .int .i64 6, v, .int .i64 0]) ∧ OpsW w' W.heap.size 37 v kops ∧ Below W.heap.size W w' := by
  have := parse_any A1 7 kdelta W (by decide) (by decide) h1
  unfold ParseOut at this
  rw [kdeltaR] at this
  exact this
theorem k26 (W : World) (A : Option Addr) (c : Nat) (h : OpsR W A kops) : Calls Try.prog 26 #[.int .i64 4, .int .i64 6, .slice A 2 c] W (Out2 (kdelta, 0) W) := by
  have := print_any 4 6 A c kops W (by decide) (by decide) (by decide) h
  rw [kprint] at this
  exact this
theorem k31 (W : World) (A A1 : Option Addr) (h : Bs W A kbase) (h1 : Bs W A1 ktext) : Calls Try.prog 31 #[.slice A 4 4, .slice A1 6 6, .int .i64 1] W (OutM kbase ktext 1 W) :=
  make_any A 4 kbase A1 6 ktext 1 W (by decide) (by decide) (by decide) (by decide) (by decide) (by decide) h h1
abbrev lo1 : Obj := .cells #[.int .u8 4, .int .u8 6, .int .u8 144, .int .u8 4, .int .u8 2, .int .u8 120, .int .u8 121] 5
abbrev lo2 : Obj := .cells #[.int .u8 97, .int .u8 98, .int .u8 99, .int .u8 100] 5 (4, 5)
abbrev lo3 : Obj := .cells #[.int .u8 97, .int .u8 98, .int .u8 99, .int .u8 100, .int .u8 120, .int .u8 121] 5 (6, 7)
theorem lit1 (W : World) : Bs (W.alloc lo1) (some ⟨W.heap.size, 0, none⟩) kdelta := bs_lit (heap_alloc_new _ _) rfl
theorem lit2 (W : World) : Bs (W.alloc lo2) (some ⟨W.heap.size, 0, none⟩) kbase := bs_lit (heap_alloc_new _ _) rfl
theorem lit3 (W : World) : Bs (W.alloc lo3) (some ⟨W.heap.size, 0, none⟩) ktext := bs_lit (heap_alloc_new _ _) rfl
theorem al (W : World) (o : Obj) : Below W.heap.size W (W.alloc o) := (Below.refl _ _).alloc (Nat.le_refl _) o
theorem known_any (w : World) : Calls Try.prog 25 #[] w fun e w' => e = .returned (.bool true) ∧ Below w.heap.size w w' := by
  have kc := fun (w : World) (C : Array Value) (n c : Nat) => Lib.run_convert_bytes_const (P := Try.prog) w 22 5 C n c Try.underlying22 Try.underlying5
  have kc2 : ∀ (w : World) (A : Obj) (C : Array Value) (n c : Nat), (convert 22 22 (.slice (some ⟨w.heap.size + 1, 0, none⟩) n c)).run Try.prog ((w.alloc A).alloc (.cells C 5)) = .ok (.slice (some ⟨w.heap.size + 1, 0, none⟩) n c) ((w.alloc A).alloc (.cells C 5 (C.size, C.size + 1))) := fun w A C n c => by
    have := kc (w.alloc A) C n c
    rwa [show (w.alloc A).heap.size = w.heap.size + 1 by simp] at this
  go_enter Try.func25, Try.ntmps25
  go_upto_region 7 with (first
    | (go_at_call 33
       (with_reducible refine (k33 _ _ _ (by have := lit2 (w.alloc lo1); rwa [show (w.alloc lo1).heap.size = w.heap.size + 1 by simp] at this) ((lit1 w).below (al _ lo2))).mono ?_); rintro e w3 ⟨v3, rfl, hw3, hb3⟩
       obtain ⟨A3, c3, rfl, _, _, hR3⟩ := WinB.readsN (n := 6) hw3 rfl
       have D3 := Sl.below (Sl.below (lit1 w) (al _ lo2)) hb3
       have B3 := ((al w lo1).alloc (by simp) lo2).trans (hb3.mono (by simp; omega)))
    | (go_at_call 29
       (with_reducible refine (k29 w3 _ D3).mono ?_); rintro e w4 ⟨v4, rfl, hv4, hb4⟩
       obtain ⟨A4, c4, e4, _, _, hO4⟩ := OpsW.reads hv4
       change v4 = .slice A4 2 c4 at e4
       subst e4
       have B4 := B3.trans (hb4.mono B3.size))
    | (go_at_call 26
       (with_reducible refine (k26 w4 _ _ hO4).mono ?_); rintro e w5 ⟨v5, rfl, hw5, hb5⟩
       obtain ⟨A5, c5, rfl, _, _, hR5⟩ := WinB.readsN (n := 7) hw5 rfl
       have B5 := B4.trans (hb5.mono B4.size))
    | (go_at_call 31
       (with_reducible refine (k31 _ _ _ (Sl.below (lit2 w5) (al _ lo3)) (by have := lit3 (w5.alloc lo2); rwa [show (w5.alloc lo2).heap.size = w5.heap.size + 1 by simp] at this)).mono ?_); rintro e w6 ⟨ops, hmade, hlen6, hsz, v6, rfl, hw6, hb6⟩
       obtain ⟨m6, hm6⟩ : ∃ m6, m6 = (putSize kbase.length ++ putSize ktext.length ++ encs ops).length := ⟨_, rfl⟩
       obtain ⟨A6, c6, rfl, hc6, _, hR6⟩ := WinB.readsN (n := m6) hw6 hm6.symm
       have hb56 : Below w5.heap.size w5 w6 := (((al w5 lo2).alloc (by simp) lo3)).trans (hb6.mono (by simp; omega))
       have B6 := B5.trans (hb56.mono B5.size)
       have k2 := k33b (w6.alloc lo2) _ A6 m6 c6 _ (lit2 w6) (Sl.below hR6 (al _ lo2)) hm6 hc6 (by
         have h6 := putSize_len kbase.length 3 (by decide) (by decide)
         have h7 := putSize_len ktext.length 3 (by decide) (by decide)
         rw [List.length_append, List.length_append]
         omega) (by rw [applyD_made hmade (by decide) (by decide)]; rfl)
       have K2 := Lib.hid k2
       clear k2 hm6 hmade hsz hw6 hR6)
    | (go_at_call 33
       (with_reducible refine K2.out.mono ?_); rintro e w7 ⟨v7, rfl, hw7, hb7⟩
       obtain ⟨A7, c7, rfl, _, _, hR7⟩ := WinB.readsN (n := 6) hw7 rfl
       have hb67 : Below w6.heap.size w6 w7 := (al w6 lo2).trans (hb7.mono (by simp))))
  have hb57 := hb56.trans (hb67.mono hb56.size)
  have hb47 := hb5.trans (hb57.mono hb5.size)
  have hb37 := hb4.trans (hb47.mono hb4.size)
  have e1 : (convert 22 9 (.slice A3 6 c3)).run Try.prog w7 = .ok (.string ⟨#[97, 98, 99, 100, 120, 121]⟩) w7 := conv22 (l := ktext) (Sl.below hR3 hb37) rfl
  have e2 : (convert 22 9 (.slice A5 7 c5)).run Try.prog w7 = .ok (.string ⟨#[4, 6, 144, 4, 2, 120, 121]⟩) w7 := conv22 (l := kdelta) (Sl.below hR5 hb57) rfl
  have e3 : (convert 22 9 (.slice (some ⟨w.heap.size, 0, none⟩) 7 7)).run Try.prog w7 = .ok (.string ⟨#[4, 6, 144, 4, 2, 120, 121]⟩) w7 := conv22 (l := kdelta) (Sl.below D3 hb37) rfl
  have e4 : (convert 22 9 (.slice A7 6 c7)).run Try.prog w7 = .ok (.string ⟨#[97, 98, 99, 100, 120, 121]⟩) w7 := conv22 (l := ktext) hR7 rfl
  clear kc kc2
  go_wp2
  go_ret
  exact ⟨rfl, B6.trans (hb67.mono B6.size)⟩
end Go.Proofs.Ytpfjkappgdpfbaa
