/- journal: the records that bytes begin with. -/
import Derived.Test.YtnonbimelkagpaaWireG
import Derived.Test.YtnonbimelkagpaaRecs
import Derived.Test.YtnonbimelkagpaaPlan
namespace Go.Proofs.Ytnonbimelkagpaa
set_option linter.unusedVariables false
set_option linter.unusedSimpArgs false
open Go.RowKit Go.Lib

/-- A record's bytes. -/
def enc (r : List UInt8) : List UInt8 := num r.length ++ r
/-- The records from a place on, and where they end. -/
def recsGo (l : List UInt8) : Nat → Nat → List (List UInt8) × Nat
  | 0, at_ => ([], at_)
  | f + 1, at_ => if l.length ≤ at_ then ([], at_) else
    if (rText (l.drop at_) 4096 ⟨0, none⟩).1 = [] then ([], at_) else
      ((rText (l.drop at_) 4096 ⟨0, none⟩).1 :: (recsGo l f (at_ + (enc (rText (l.drop at_) 4096 ⟨0, none⟩).1).length)).1, (recsGo l f (at_ + (enc (rText (l.drop at_) 4096 ⟨0, none⟩).1).length)).2)
theorem rText_len (l : List UInt8) (most : Int) (s : St) : (rText l most s).1.length ≤ l.length := by
  unfold rText
  split
  · simp
  · split
    · simp
    · simp only [List.length_take, List.length_drop]; omega
theorem enc_len {r : List UInt8} (h : r.length ≤ 1000000000) : r.length < (enc r).length ∧ (enc r).length ≤ r.length + 10 := by
  unfold enc
  have h1 := num_len r.length (by omega)
  have h2 := num_pos r.length
  rw [List.length_append]
  omega
/-- More steps make no difference. -/
theorem recsGo_end {l : List UInt8} {f at_ : Nat} (h : l.length ≤ at_) : recsGo l f at_ = ([], at_) := by
  cases f with
  | zero => rfl
  | succ f => rw [recsGo, if_pos h]
theorem recsGo_stop {l : List UInt8} {f at_ : Nat} (h : (rText (l.drop at_) 4096 ⟨0, none⟩).1 = []) : recsGo l f at_ = ([], at_) := by
  cases f with
  | zero => rfl
  | succ f =>
    rw [recsGo]
    split
    · rfl
    · rfl
theorem recsGo_more {l : List UInt8} {f at_ : Nat} {s : List UInt8} (hf : l.length ≤ at_ + f) (h : ¬ l.length ≤ at_) (hs : (rText (l.drop at_) 4096 ⟨0, none⟩).1 = s) (h0 : s ≠ []) : ∃ g, f = g + 1 ∧ recsGo l f at_ = (s :: (recsGo l g (at_ + (enc s).length)).1, (recsGo l g (at_ + (enc s).length)).2) := by
  cases f with
  | zero => omega
  | succ g =>
    refine ⟨g, rfl, ?_⟩
    rw [recsGo, if_neg h, if_neg (by rw [hs]; exact h0), hs]
def recsOf (l : List UInt8) : List (List UInt8) := (recsGo l l.length 0).1
def recsEnd (l : List UInt8) : Nat := (recsGo l l.length 0).2

set_option maxHeartbeats 4000000 in
set_option maxRecDepth 100000 in
theorem records_any (F : Nat → Prop) (A : Option Addr) (n c : Nat) (l : List UInt8) (w : World) (hr : Rd w F A (u8s l)) (hl : l.length = n) (hF : ∀ k, F k → k < w.heap.size) (hn : n ≤ 1000000) (hc : n ≤ c) :
    Calls Try.prog 45 #[.slice A n c] w fun e w' => ∃ v, e = .returned (.tuple #[v, .int .i64 (recsEnd l : Int)]) ∧ Recs w' (New w) v (recsOf l) ∧ Kp No w w' := by
  have HR := As.mk hr
  have HL := As.mk hl
  have HF := As.mk hF
  clear hr hl hF
  go_enter Try.func45, Try.ntmps45
  go_wp2
  go_loopw [4, 5] (fun v vi wr => ∃ (at_ f : Nat) (acc : List (List UInt8)), vi = .int .i64 (at_ : Int) ∧ at_ ≤ 1000000000 ∧ As (n ≤ at_ + f ∧ acc.length ≤ at_ ∧ acc ++ (recsGo l f at_).1 = recsOf l ∧ (recsGo l f at_).2 = recsEnd l) ∧ As (Recs wr (New w) v acc) ∧ As (Kp No w wr)) (fun _ vi _ => n - (intOf vi).toNat)
  case atStart => exact ⟨0, n, [], rfl, by omega, ⟨by omega, by simp, by rw [← HL.out]; exact ⟨rfl, rfl⟩⟩, ⟨Recs.nil _ _⟩, ⟨Kp.refl _ _⟩⟩
  case round =>
    obtain ⟨at_, f, acc, rfl, hat, PC, RC, K⟩ := hrel
    obtain ⟨Av, cv, rfl, _, _⟩ := RC.out.len
    by_cases hlt : at_ < n
    · obtain ⟨l', hl'⟩ : ∃ l', l' = l.drop at_ := ⟨_, rfl⟩
      have hlen : l'.length = n - at_ := by rw [hl', List.length_drop, HL.out]
      obtain ⟨s, st, hrt⟩ : ∃ s st, rText l' 4096 ⟨0, none⟩ = (s, st) := ⟨_, _, rfl⟩
      have hsl : s.length ≤ n - at_ := by have := rText_len l' 4096 ⟨0, none⟩; rw [hrt, hlen] at this; exact this
      have hs1 : (rText (l.drop at_) 4096 ⟨0, none⟩).1 = s := by rw [← hl', hrt]
      obtain ⟨S, hS⟩ : ∃ S : ByteArray, S = ⟨s.toArray⟩ := ⟨_, rfl⟩
      have hSl : S.data.toList = s := by rw [hS]
      have hSz : S.size = s.length := by rw [hS]; rfl
      have hcut := fun W => run_cut_lo (P := Try.prog) (A := A) W 22 5 Try.underlying22 rfl 1 size8 n c (at_ : Int) (by omega) (by omega)
      simp only [Int.toNat_natCast] at hcut
      have hrd := read_any F (cutA A at_ c 1) (c - at_) l' wr (by
        have h1 := (HR.out.keep K.out).cutA at_ c 1 (by rw [u8s_length, HL.out]; omega)
        rw [hl', u8s, List.map_drop]
        simpa [u8s] using h1) (fun k hk => Nat.lt_of_lt_of_le (HF.out k hk) K.out.size) (by omega) (by omega)
      rw [hlen] at hrd
      have RD := As.mk hrd
      have RT := As.mk hrt
      have SS := As.mk (And.intro hS (And.intro hSl hSz))
      have S1 := As.mk hs1
      have hSb : S.size ≤ 1000000000 := by rw [hSz]; omega
      clear hrd hrt hl' hlen hs1 hS hSl hSz
      by_cases hs0 : s = []
      · have hemp : S.toList.isEmpty = true := by
          rw [ByteArray.toList_eq, SS.out.2.1, hs0]; rfl
        have hst := recsGo_stop (l := l) (f := f) (at_ := at_) (by rw [S1.out, hs0])
        have HST := As.mk hst
        clear hst hs0
        go_wp2_with (first
          | (go_at_call 51; go_must (
              refine RD.out.mono ?_
              rintro e w1 ⟨rfl, hi, hk, hsz⟩
              have I1 := As.mk hi
              have K1 := As.mk hk
              clear hi hk hsz RD))
          | (go_at_call 52; go_must (
              refine (rtext_any _ F l' ⟨0, none⟩ 4096 _ I1.out (by decide)).mono ?_
              rw [RT.out]
              simp only
              rw [← SS.out.1]
              rintro e w2 ⟨rfl, hi, hk⟩
              have K2 := As.mk (K1.out.trans hk (fun k hlt hs => absurd hlt (by have e : k = wr.heap.size := hs; omega)))
              clear hi hk I1 K1)))
        go_ret2
        rw [HST.out] at PC
        obtain ⟨_, _, h1, h2⟩ := PC.out
        simp only [List.append_nil] at h1
        exact ⟨_, by rw [← h2]; rfl, by rw [← h1]; exact RC.out.keep ((Kp.refl _ _).mono (fun _ _ h => h) |>.trans K2.out (fun _ _ h => h)), K.out.then_ K2.out⟩
      · have hemp : S.toList.isEmpty = false := by
          rw [ByteArray.toList_eq, SS.out.2.1]
          cases s with
          | nil => exact absurd rfl hs0
          | cons x r => rfl
        obtain ⟨f', hf', hmore⟩ := recsGo_more (l := l) (f := f) (at_ := at_) (s := s) (by have := PC.out.1; rw [HL.out]; exact this) (by rw [HL.out]; omega) S1.out hs0
        have hel := enc_len (r := s) (by omega)
        have HM := As.mk (And.intro hf' hmore)
        have hcv := fun W => Lib.run_convert_string_bytes (P := Try.prog) W 9 22 5 S Try.underlying9 Try.underlying22 Try.underlying5
        obtain ⟨ne, hne⟩ : ∃ m, m = (enc s).length := ⟨_, rfl⟩
        have hne2 : ([] ++ (num S.size ++ S.data.toList)).length = ne := by rw [hne, List.nil_append, SS.out.2.1, SS.out.2.2]; rfl
        have NE := As.mk (And.intro hne hne2)
        have hne3 : ne ≤ s.length + 10 := by rw [hne]; omega
        have hne4 : s.length < ne := by rw [hne]; omega
        clear hf' hmore hel hs0 hne hne2
        obtain ⟨acs, hac1, hac2⟩ := RC.out
        have RA := As.mk hac1
        have RB := As.mk hac2
        clear hac1 hac2
        go_wp2_with (first
          | (go_at_call 51; go_must (
              refine RD.out.mono ?_
              rintro e w1 ⟨rfl, hi, hk, hsz⟩
              have I1 := As.mk hi
              have K1 := As.mk hk
              clear hi hk hsz RD))
          | (go_at_call 52; go_must (
              refine (rtext_any _ F l' ⟨0, none⟩ 4096 _ I1.out (by decide)).mono ?_
              rw [RT.out]
              simp only
              rw [← SS.out.1]
              rintro e w2 ⟨rfl, hi, hk⟩
              have K2 := As.mk (K1.out.trans hk (fun k hlt hs => absurd hlt (by have e : k = wr.heap.size := hs; omega)))
              clear hi hk I1 K1))
          | ((with_reducible refine gate (N := 26) rfl ?_); go_must (
              refine app1 (w := bytesWorld w2 5 S) rfl _ _ _ rfl 22 _ 1 24 infoRecs Try.underlying56 rfl (by decide) (.slice Av acc.length cv) acc.length acs rfl (G := New w) ((RA.out.keep K2.out).keep ((Kp.refl No w2).bytes _ S)) #[.slice (some ⟨w2.heap.size, 0, none⟩) S.size (grownCap w2 S.size 0 5)] _ rfl ?zh rfl (S := No) (w0 := w) ((K.out.then_ K2.out).bytes _ S) (fun k hk => hk) (fun k hk => .inr hk) ?zi ?zj ?_
              case zh => intro u hu; simp at hu; subst hu; rfl
              case zi => unfold maxLen; have := PC.out.2.1; omega
              case zj => have := PC.out.2.1; omega
              intro v3 w3 o3 k3 g3
              have O3 := As.mk o3
              have K3 := As.mk k3
              have G3 := As.mk g3
              clear o3 k3 g3))
          | (go_at_call 40; go_must (
              refine (text_any (fun _ => False) none 0 0 [] S w3 (Rd.nil _ _ _) rfl (by decide) hSb).mono ?_
              rw [NE.out.2]
              rintro e w4 ⟨v4, rfl, ho, hk⟩
              obtain ⟨A4, c4, rfl, _, _, _⟩ := ho.read
              have K4 := As.mk hk
              clear ho hk)))
        have hb1 := RA.out.keep ((K2.out.then_ ((Kp.refl No w2).bytes 5 S)))
        have hb2 : ∀ (i : Nat) (r : List UInt8), acc[i]? = some r → ∃ u, acs[i]? = some u ∧ Rec1 (bytesWorld w2 5 S) (New w) u r := fun i r hi => by
          obtain ⟨u, h1, h2⟩ := RB.out i r hi
          exact ⟨u, h1, h2.kp (K2.out.then_ ((Kp.refl No w2).bytes 5 S)) (fun _ _ _ => id)⟩
        have hb3 : Rec1 (bytesWorld w2 5 S) (New w) (.slice (some ⟨w2.heap.size, 0, none⟩) S.size (grownCap w2 S.size 0 5)) s := by
          refine ⟨some ⟨w2.heap.size, 0, none⟩, grownCap w2 S.size 0 5, by rw [SS.out.2.2], (fun h => by cases h), ?_⟩
          have := Rd8.bytes w2 S
          rw [SS.out.2.1] at this
          exact this.mono (fun k _ hk => by have := (K.out.then_ K2.out).size; unfold New; omega)
        have hsn := Recs.snoc hb1 hb2 hb3 O3.out ((Kp.refl _ _).grown G3.out (fun k hk => .inl (show (fun q => (Value.slice Av acc.length cv).ownBlock = some q) k from hk))) (fun k _ hu => own_u8 hb1 (by decide) hu) (fun _ h => h)
        obtain ⟨hf', hmore⟩ := HM.out
        obtain ⟨p1, p2, p3, p4⟩ := PC.out
        rw [hmore] at p3 p4
        exact ⟨⟨at_ + ne, f', acc ++ [s], by go_num, by omega, ⟨by omega, by simp; omega, by rw [NE.out.1, List.append_assoc]; exact p3, by rw [NE.out.1]; exact p4⟩, ⟨hsn.keep K4.out⟩, ⟨K3.out.then_ K4.out⟩⟩, by simp [intOf]; omega⟩
    · have hge : ¬ at_ < n := hlt
      go_wp2
      go_ret2
      have := recsGo_end (l := l) (f := f) (at_ := at_) (by rw [HL.out]; omega)
      rw [this] at PC
      obtain ⟨_, _, h1, h2⟩ := PC.out
      simp only [List.append_nil] at h1
      refine ⟨_, by rw [← h2]; rfl, by rw [← h1]; exact RC.out, K.out⟩
end Go.Proofs.Ytnonbimelkagpaa
