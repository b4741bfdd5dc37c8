/- The disk and the reference's disk, side by side: what is done with both. -/
import Derived.Test.YtnonbimelkagpaaPlaysB
import Derived.Test.YtnonbimelkagpaaJourH
namespace Go.Proofs.Ytnonbimelkagpaa
set_option linter.unusedVariables false
set_option linter.unusedSimpArgs false
open Go.RowKit Go.Lib

/-- What is said of the parts. -/
def LF (room : Int) (L : List Pt) : Prop := PSorted L ∧ (pUsed L : Int) ≤ room ∧ 1 ≤ room ∧ room ≤ 65536 ∧ (∀ x ∈ L, x.s ≤ x.b.length ∧ x.b.length ≤ 1000000000) ∧ L.length ≤ 1000000
section
variable {Z : Nat → Prop} {wb w w1 : World} {d m : Nat} {room : Int} {dn dn2 : Bool} {L L2 : List Pt}
theorem PS.lf (h : PS Z wb w d m room dn L dn2 L2) (hl : L.length ≤ 1000000) : LF room L := by
  obtain ⟨a, b, c, e, f⟩ := h.facts
  refine ⟨a, b, c, e, fun x hx => ⟨f x hx, ?_⟩, hl⟩
  obtain ⟨q, hq⟩ := List.mem_iff_getElem?.1 hx
  have := le_pUsed hq
  omega

theorem ps_append (V : Value) (L1 : List Pt) (c : Nat) (h : PS Z wb w d m room dn L dn L) (lf : LF room L) (n : Int) (hn : -9223372036854775808 ≤ n ∧ n ≤ 9223372036854775807) (F : Nat → Prop) (A : Option Addr) (k cc : Nat) (b : List UInt8) (hr : Rd w F A (u8s b)) (hbl : b.length = k) (hk : k ≤ 1000000000) (hc : c = appCode dn room L n k) (hV : errV c = V) (hL1 : L1 = if c = 0 then pAppend n b L else L) :
    Calls Try.prog 8 #[.pointer (some ⟨d, 0, none⟩), .int .i64 n, .slice A k cc] w fun e w' => e = .returned V ∧ PS Z wb w' d m room dn L1 dn L := by
  subst hc
  exact h.doD fun D hD => append_at V L1 w d D room dn L hD (by have := lf.2.2.2.2.2; omega) n hn F A k cc b hr hbl hk hV hL1.symm
theorem ps_rappend (L1 : List Pt) (c : Nat) (h : PS Z wb w d m room dn L1 dn L) (lf : LF room L) (n : Int) (hn : -9223372036854775808 ≤ n ∧ n ≤ 9223372036854775807) (b : List UInt8) (k : Nat) (hbl : b.length = k) (B : ByteArray) (hB : B = ⟨b.toArray⟩) (hc : c = appCode dn room L n k) (hL1 : L1 = if c = 0 then pAppend n b L else L) :
    Calls Try.prog 14 #[.pointer (some ⟨m, 0, none⟩), .int .i64 n, .string B] w fun e w' => e = .returned (.int .i64 (c : Int)) ∧ PS Z wb w' d m room dn L1 dn L1 :=
  h.doM fun M hM => (refAppend_any w m M room dn L hM lf.1 (by have := lf.2.2.2.2.2; omega) (by have := lf.2.1; have := lf.2.2.2.1; omega) (by have := lf.2.2.1; omega) (by have := lf.2.2.2.1; omega) n b B hB c L1 (by rw [hc, hbl]) hL1)

theorem ps_sync (V : Value) (L1 : List Pt) (c : Nat) (h : PS Z wb w d m room dn L dn L) (lf : LF room L) (n : Int) (hn : -9223372036854775808 ≤ n ∧ n ≤ 9223372036854775807) (hc : c = partCode dn L n) (hV : errV c = V) (hL1 : L1 = if c = 0 then pSync n L else L) :
    Calls Try.prog 9 #[.pointer (some ⟨d, 0, none⟩), .int .i64 n] w fun e w' => e = .returned V ∧ PS Z wb w' d m room dn L1 dn L := by
  subst hc
  exact h.doD fun D hD => sync_at V L1 w d D room dn L hD n hn hV hL1.symm
theorem ps_rsync (L1 : List Pt) (c : Nat) (h : PS Z wb w d m room dn L1 dn L) (lf : LF room L) (n : Int) (hn : -9223372036854775808 ≤ n ∧ n ≤ 9223372036854775807) (hc : c = partCode dn L n) (hL1 : L1 = if c = 0 then pSync n L else L) :
    Calls Try.prog 15 #[.pointer (some ⟨m, 0, none⟩), .int .i64 n] w fun e w' => e = .returned (.int .i64 (c : Int)) ∧ PS Z wb w' d m room dn L1 dn L1 :=
  h.doM fun M hM => (refSync_any w m M room dn L hM lf.1 (by have := lf.2.2.2.2.2; omega) n c L1 hc hL1).mono fun e w' hh => ⟨hh.1, hh.2.1.gr hM.lt hh.2.2, hh.2.2⟩

theorem ps_cut (V : Value) (L1 : List Pt) (c : Nat) (h : PS Z wb w d m room dn L dn L) (lf : LF room L) (n : Int) (hn : -9223372036854775808 ≤ n ∧ n ≤ 9223372036854775807) (z : Int) (hc : c = cutCode dn L n z) (hV : errV c = V) (hL1 : L1 = if c = 0 then pCut n z.toNat L else L) :
    Calls Try.prog 16 #[.pointer (some ⟨d, 0, none⟩), .int .i64 n, .int .i64 z] w fun e w' => e = .returned V ∧ PS Z wb w' d m room dn L1 dn L := by
  subst hc
  exact h.doD fun D hD => cut_at V L1 w d D room dn L hD n z hn hV hL1.symm
theorem ps_rcut (L1 : List Pt) (c : Nat) (h : PS Z wb w d m room dn L1 dn L) (lf : LF room L) (n : Int) (hn : -9223372036854775808 ≤ n ∧ n ≤ 9223372036854775807) (z : Int) (hc : c = cutCode dn L n z) (hL1 : L1 = if c = 0 then pCut n z.toNat L else L) :
    Calls Try.prog 17 #[.pointer (some ⟨m, 0, none⟩), .int .i64 n, .int .i64 z] w fun e w' => e = .returned (.int .i64 (c : Int)) ∧ PS Z wb w' d m room dn L1 dn L1 :=
  h.doM fun M hM => (refCut_any w m M room dn L hM lf.1 (by have := lf.2.2.2.2.2; omega) n z c L1 hc hL1).mono fun e w' hh => ⟨hh.1, hh.2.1.gr hM.lt hh.2.2, hh.2.2⟩

theorem ps_remove (V : Value) (L1 : List Pt) (c : Nat) (h : PS Z wb w d m room dn L dn L) (lf : LF room L) (n : Int) (hn : -9223372036854775808 ≤ n ∧ n ≤ 9223372036854775807) (hc : c = partCode dn L n) (hV : errV c = V) (hL1 : L1 = if c = 0 then pDel n L else L) :
    Calls Try.prog 18 #[.pointer (some ⟨d, 0, none⟩), .int .i64 n] w fun e w' => e = .returned V ∧ PS Z wb w' d m room dn L1 dn L := by
  subst hc
  exact h.doD fun D hD => remove_at V L1 w d D room dn L hD n hn hV hL1.symm
theorem ps_rremove (L1 : List Pt) (c : Nat) (h : PS Z wb w d m room dn L1 dn L) (lf : LF room L) (n : Int) (hn : -9223372036854775808 ≤ n ∧ n ≤ 9223372036854775807) (hc : c = partCode dn L n) (hL1 : L1 = if c = 0 then pDel n L else L) :
    Calls Try.prog 19 #[.pointer (some ⟨m, 0, none⟩), .int .i64 n] w fun e w' => e = .returned (.int .i64 (c : Int)) ∧ PS Z wb w' d m room dn L1 dn L1 :=
  h.doM fun M hM => (refRemove_any w m M room dn L hM lf.1 (by have := lf.2.2.2.2.2; omega) n c L1 hc hL1)

theorem ps_crash (L1 : List Pt) (h : PS Z wb w d m room dn L dn L) (lf : LF room L) (z : Int) (hz : -9223372036854775808 ≤ z ∧ z ≤ 9223372036854775807) (hL1 : L1 = if dn then L else pCrash z.toNat L) :
    Calls Try.prog 10 #[.pointer (some ⟨d, 0, none⟩), .int .i64 z] w fun e w' => e = .returned (.tuple #[]) ∧ PS Z wb w' d m room true L1 dn L :=
  h.doD fun D hD => crash_at L1 w d D room dn L hD (by have := lf.2.2.2.2.2; omega) z hz.1 hz.2 hL1.symm
theorem ps_rcrash (L1 : List Pt) (h : PS Z wb w d m room true L1 dn L) (lf : LF room L) (z : Int) (hz : -9223372036854775808 ≤ z ∧ z ≤ 9223372036854775807) (hL1 : L1 = if dn then L else pCrash z.toNat L) :
    Calls Try.prog 21 #[.pointer (some ⟨m, 0, none⟩), .int .i64 z] w fun e w' => e = .returned (.tuple #[]) ∧ PS Z wb w' d m room true L1 true L1 :=
  h.doM fun M hM => (refCrash_any w m M room dn L hM (by have := lf.2.2.2.2.2; omega) lf.2.2.2.2.1 z hz.1 hz.2 L1 hL1).mono fun e w' hh => ⟨hh.1, hh.2.1.gr hM.lt hh.2.2, hh.2.2⟩
theorem ps_up (h : PS Z wb w d m room dn L dn2 L2) :
    Calls Try.prog 11 #[.pointer (some ⟨d, 0, none⟩)] w fun e w' => e = .returned (.tuple #[]) ∧ PS Z wb w' d m room false L dn2 L2 :=
  h.doD fun D hD => disk_up w d D room dn L hD
/-- The reference comes up. -/
theorem PS.rup (h : PS Z wb w d m room dn L dn2 L2) : PS Z wb (w.setCell ⟨m, 2, none⟩ (.bool false)) d m room dn L false L2 := by
  obtain ⟨D, M, h1, h2, h3, h4, h5⟩ := h
  obtain ⟨k1, k2⟩ := h2.downs false
  have hmm : M m := by obtain ⟨v, _, a, _⟩ := h2; exact a
  exact ⟨D, M, h1.kp k2 (fun k hk he => h3 k hk (by have e : k = m := he; rw [e]; exact hmm)), k1, h3, h4, h5.trans k2 (fun k hk he => by
    have e : k = m := he
    subst e
    rcases h4 k (.inr hmm) with h | h
    · exact h
    · omega)⟩
theorem PS.cells (h : PS Z wb w d m room dn L dn2 L2) : ∃ A cc, w.cell? ⟨m, 1, none⟩ = some (.slice A L2.length cc) ∧ w.cell? ⟨m, 2, none⟩ = some (.bool dn2) ∧ (∀ q, w.frozen? ⟨m, q, none⟩ = false) := by
  obtain ⟨D, M, h1, h2, _⟩ := h
  obtain ⟨A, cc, a, b, c, _⟩ := h2.cells
  exact ⟨A, cc, a, b, c⟩
theorem PS.kp (h : PS Z wb w d m room dn L dn2 L2) : Kp Z wb w := by
  obtain ⟨_, _, _, _, _, _, k⟩ := h
  exact k
theorem ps_read (V : Value) (c : Nat) (l : List UInt8) (h : PS Z wb w d m room dn L dn2 L2) (n : Int) (hn : -9223372036854775808 ≤ n ∧ n ≤ 9223372036854775807) (hc : c = partCode dn L n) (hV : errV c = V) (hl : l = if c = 0 then pBytes L n else []) :
    Calls Try.prog 12 #[.pointer (some ⟨d, 0, none⟩), .int .i64 n] w fun e w' => ∃ A cc, e = .returned (.tuple #[.slice A l.length cc, V]) ∧ Rd w' (fun k => New w k ∧ k < w'.heap.size) A (u8s l) ∧ Kp No w w' := by
  subst hc
  obtain ⟨D, M, h1, _⟩ := h
  refine (read_at V l w d D room dn L h1 n hn hV hl.symm).mono ?_
  rintro e w' ⟨A, cc, rfl, _, _, a, b⟩
  exact ⟨A, cc, rfl, a, b⟩
theorem ps_rread (c : Nat) (l : List UInt8) (h : PS Z wb w d m room dn L dn L) (lf : LF room L) (n : Int) (hc : c = partCode dn L n) (hl : l = if c = 0 then pBytes L n else []) :
    Calls Try.prog 20 #[.pointer (some ⟨m, 0, none⟩), .int .i64 n] w fun e w' => e = .returned (.tuple #[.string ⟨l.toArray⟩, .int .i64 (c : Int)]) ∧ w' = w := by
  obtain ⟨D, M, _, h2, _⟩ := h
  by_cases h0 : c = 0
  · obtain ⟨hd, q, x, hf, hx, hxn, hq⟩ := partCode_at (hc.symm.trans h0)
    subst hd
    rw [if_pos h0, pBytes, hf] at hl
    subst h0
    subst hl
    exact refRead_ok w m M room L h2 (by have := lf.2.2.2.2.2; omega) n q x hq hx
  · rw [if_neg h0] at hl
    subst hl
    exact refRead_bad w m M room dn L h2 (by have := lf.2.2.2.2.2; omega) n c hc h0
theorem ps_used (h : PS Z wb w d m room dn L dn2 L2) :
    Calls Try.prog 23 #[.pointer (some ⟨d, 0, none⟩)] w fun e w' => e = .returned (.int .i64 (pUsed L : Int)) ∧ Kp No w w' := by
  obtain ⟨D, M, h1, _⟩ := h
  exact disk_used w d D room dn L h1
theorem ps_rused (h : PS Z wb w d m room dn L dn2 L) (lf : LF room L) :
    Calls Try.prog 24 #[.pointer (some ⟨m, 0, none⟩)] w fun e w' => e = .returned (.int .i64 (pUsed L : Int)) ∧ w' = w := by
  obtain ⟨D, M, _, h2, _⟩ := h
  exact refUsed_any w m M room dn2 L h2 (by have := lf.2.2.2.2.2; omega) (by have := lf.2.1; have := lf.2.2.2.1; omega)
theorem ps_parts (h : PS Z wb w d m room dn L dn2 L2) (lf : LF room L) :
    Calls Try.prog 25 #[.pointer (some ⟨d, 0, none⟩)] w fun e w' => ∃ v, e = .returned v ∧ Own w' (New w) 3 1 v L.length (L.map fun x => .int .i64 x.n) ∧ Kp No w w' := by
  obtain ⟨D, M, h1, _⟩ := h
  exact disk_parts w d D room dn L h1 (by have := lf.2.2.2.2.2; omega)
/-- The reference's row, seen. -/
theorem PS.seen (h : PS Z wb w d m room dn L dn2 L2) : ∃ A cc, w.cell? ⟨m, 1, none⟩ = some (.slice A L2.length cc) ∧ (L2 ≠ [] → ∃ g, A = some ⟨g, 0, none⟩) ∧ ∀ g, A = some ⟨g, 0, none⟩ → ∀ (i : Nat) (x : Pt), L2[i]? = some x → w.cell? ⟨g, i * 3, none⟩ = some (.int .i64 x.n) ∧ w.cell? ⟨g, i * 3 + 1, none⟩ = some (bstr x.b) := by
  obtain ⟨D, M, _, ⟨v, k1, k2, k3, k4⟩, _⟩ := h
  obtain ⟨A, cc, rfl, _, _, i3, i4⟩ := pts_see k4
  refine ⟨A, cc, (blk3 k1).2.1, fun hne => ?_, fun g e i x hx => ?_⟩
  · obtain ⟨g, e, _⟩ := i3 hne
    exact ⟨g, e⟩
  · obtain ⟨a, b, _, _⟩ := i4 g e i x hx
    exact ⟨a, b⟩
theorem codes_le (h : LF room L) : ∀ n k z, appCode dn room L n k ≤ 10 ∧ partCode dn L n ≤ 10 ∧ cutCode dn L n z ≤ 10 := by
  intro n k z
  have hp : partCode dn L n ≤ 10 := by
    unfold partCode
    repeat' split
    all_goals omega
  refine ⟨?_, hp, ?_⟩
  · unfold appCode
    repeat' split
    all_goals omega
  · unfold cutCode
    repeat' split
    all_goals omega
/-- Both, beside block go. -/
def PQ (go : Nat) (w0 w : World) (d m : Nat) (room : Int) (dn : Bool) (L : List Pt) : Prop :=
  ∃ D M, Disk w d D room dn L ∧ Ref w m M room dn L ∧ (∀ k, D k → ¬ M k) ∧ (∀ k, D k ∨ M k → w0.heap.size ≤ k ∧ k ≠ go) ∧ Kp No w0 w
theorem PQ.set {go : Nat} {w0 : World} (h : PQ go w0 w d m room dn L) (hg : w0.heap.size ≤ go) (q : Nat) (u : Value) : PQ go w0 (w.setCell ⟨go, q, none⟩ u) d m room dn L := by
  obtain ⟨D, M, h1, h2, h3, h4, h5⟩ := h
  have k2 : Kp (Is go) w (w.setCell ⟨go, q, none⟩ u) := (Kp.refl _ w).set q u
  exact ⟨D, M, h1.kp k2 (fun k hk he => (h4 k (.inl hk)).2 he), h2.kp k2 (fun k hk he => (h4 k (.inr hk)).2 he), h3, h4, h5.trans k2 (fun k hk he => by have e : k = go := he; omega)⟩
theorem PQ.ps {go : Nat} {w0 : World} (h : PQ go w0 w d m room dn L) : PS No w0 w d m room dn L dn L := by
  obtain ⟨D, M, h1, h2, h3, h4, h5⟩ := h
  exact ⟨D, M, h1, h2, h3, fun k hk => .inr (h4 k hk).1, h5⟩
theorem PS.pq {w0 wr : World} {go : Nat} (h : PS (fun k => w0.heap.size ≤ k ∧ k < wr.heap.size) wb w d m room dn L dn L) (hk : Kp No w0 wb) (h1 : wr.heap.size ≤ go) (h2 : go < wb.heap.size) : PQ go w0 w d m room dn L := by
  obtain ⟨D, M, k1, k2, k3, k4, k5⟩ := h
  refine ⟨D, M, k1, k2, k3, fun k hk' => ?_, hk.trans k5 (fun k hlt hz => by have := hz.1; omega)⟩
  have := hk.size
  rcases k4 k hk' with h | h
  · exact ⟨h.1, by have := h.2; omega⟩
  · exact ⟨by omega, by omega⟩
end
end Go.Proofs.Ytnonbimelkagpaa
