/- Own work: events' octets are taken without fail. -/
import Derived.Test.YthdcblpadgdamaaGreatDoorTpName
set_option linter.all false
namespace Go.Proofs
open Go Go.Trw
theorem ior_range (a b : Int) : 0 ≤ ior .u64 a b ∧ ior .u64 a b ≤ 18446744073709551615 := wrapu_range _
theorem unfold_inK (n : Int) : inK .i64 (num_Unfold n) := by
  unfold num_Unfold
  split
  · exact inK_wrap _ _
  · exact inK_wrap _ _
theorem numUnpack {s : Str} (h : s.length ≤ 16777216) : Tot (num_Unpack s) (fun r => 0 ≤ r.1 ∧ r.1 ≤ 18446744073709551615 ∧ 0 ≤ r.2.1 ∧ r.2.1 ≤ s.length ∧ r.2.1 ≤ 10 ∧ (r.2.2 = 0 → 1 ≤ r.2.1)) := by
  unfold num_Unpack
  refine Tot.bind (Tot.loop (fun (n, i) => 0 ≤ i ∧ i ≤ 10) (fun (n, i) => (10 - i).toNat) ?_ ?_)
  · exact ⟨by omega, by omega⟩
  rintro ⟨n, i⟩ ⟨h1, h2⟩
  repeat' first
    | dsimp only
    | refine Tot.gd ?_ (fun _ => ?_)
    | refine Tot.ite (fun _ => ?_) (fun _ => ?_)
    | refine Tot.next ?_ ?_
    | refine Tot.brk ?_
    | refine Tot.ret ?_
    | refine Tot.bind ?_
  all_goals
    have hv := ior_range n
    generalize ior .u64 n = g at *
    grind [okL, okS, wrap64]
/-- A reader within its octets. -/
def rdOK (o : event_reader) : Prop := 0 ≤ o.at_ ∧ o.at_ ≤ o.s_.length ∧ o.s_.length ≤ 16777216
theorem readerNumber {a : Int} {o : event_reader} (h : rdOK o) (ha : 0 ≤ a) : Tot (event_reader_number_o0 a o) (fun r => rdOK r.2 ∧ r.2.s_ = o.s_ ∧ 0 ≤ r.1 ∧ r.1 ≤ a) := by
  unfold event_reader_number_o0
  repeat' first
    | dsimp only
    | refine (numUnpack (by grind [rdOK])).mono (fun _ _ => ?_)
    | refine Tot.gd ?_ (fun _ => ?_)
    | refine Tot.ite (fun _ => ?_) (fun _ => ?_)
    | refine Tot.next ?_ ?_
    | refine Tot.brk ?_
    | refine Tot.ret ?_
    | refine Tot.bind ?_
  all_goals grind [okL, okS, wrap64, rdOK]
theorem readerText {a : Int} {o : event_reader} (h : rdOK o) (ha : 0 ≤ a) (hb : a ≤ 1000) : Tot (event_reader_text_o0 a o) (fun r => rdOK r.2 ∧ r.2.s_ = o.s_ ∧ r.1.length ≤ a) := by
  unfold event_reader_text_o0
  repeat' first
    | dsimp only
    | refine (readerNumber h ha).mono (fun _ _ => ?_)
    | refine Tot.gd ?_ (fun _ => ?_)
    | refine Tot.ite (fun _ => ?_) (fun _ => ?_)
    | refine Tot.next ?_ ?_
    | refine Tot.brk ?_
    | refine Tot.ret ?_
    | refine Tot.bind ?_
  all_goals grind [okL, okS, wrap64, rdOK, cutS]
theorem valTake {s : Str} (h : s.length ≤ 16777216) : Tot (val_Take s) (fun r => ok_Value 60 r.1 ∧ 0 ≤ r.2.1 ∧ r.2.1 ≤ s.length) := by
  unfold val_Take
  have hs : s ≠ [] → 0 < s.length := fun h => by cases s; exact absurd rfl h; simp
  have hu := unfold_inK
  repeat' first
    | dsimp only
    | refine (numUnpack (by grind)).mono (fun _ _ => ?_)
    | refine Tot.gd ?_ (fun _ => ?_)
    | refine Tot.ite (fun _ => ?_) (fun _ => ?_)
    | refine Tot.next ?_ ?_
    | refine Tot.brk ?_
    | refine Tot.ret ?_
    | refine Tot.bind ?_
  all_goals grind [okL, okS, wrap64, ok_Value, cutS, inK_wrap, inK_i64, z_api_Value]
theorem readerValue {o : event_reader} (h : rdOK o) : Tot (event_reader_value_o0 o) (fun r => rdOK r.2 ∧ r.2.s_ = o.s_ ∧ ok_Value 60 r.1) := by
  unfold event_reader_value_o0
  repeat' first
    | dsimp only
    | refine (valTake (by grind [rdOK])).mono (fun _ _ => ?_)
    | refine Tot.gd ?_ (fun _ => ?_)
    | refine Tot.ite (fun _ => ?_) (fun _ => ?_)
    | refine Tot.next ?_ ?_
    | refine Tot.brk ?_
    | refine Tot.ret ?_
    | refine Tot.bind ?_
  all_goals grind [okL, okS, wrap64, rdOK, ok_Value, inK_i64, z_api_Value]
theorem eventMay {e : api_Event} (h : e.L.length ≤ 16777216) : Tot (event_May e) (fun _ => True) := by
  unfold event_May
  repeat' first
    | dsimp only
    | refine (nameTopic _).mono (fun _ _ => ?_)
    | refine (eventField).mono (fun _ _ => ?_)
    | refine Tot.gd ?_ (fun _ => ?_)
    | refine Tot.ite (fun _ => ?_) (fun _ => ?_)
    | refine Tot.next ?_ ?_
    | refine Tot.brk ?_
    | refine Tot.ret ?_
    | refine Tot.bind ?_
  all_goals
    refine Tot.loop (fun i => 0 ≤ i ∧ i ≤ (e.L.length : Int)) (fun i => (e.L.length - i).toNat) ⟨by omega, by omega⟩ ?_
    rintro i hI
    repeat' first
      | dsimp only
      | refine (eventField).mono (fun _ _ => ?_)
      | refine Tot.gd ?_ (fun _ => ?_)
      | refine Tot.ite (fun _ => ?_) (fun _ => ?_)
      | refine Tot.next ?_ ?_
      | refine Tot.brk ?_
      | refine Tot.ret ?_
      | refine Tot.bind ?_
    all_goals grind [okL, okS, wrap64]
theorem eventTake {s : Str} (h : s.length ≤ 16777216) : Tot (event_Take s) (fun _ => True) := by
  unfold event_Take
  refine Tot.bind ((readerText (o := ⟨s, 0, 0⟩) ⟨by simp, by simp, h⟩ (by omega) (by omega)).mono fun x1 h1 => ?_)
  refine Tot.bind ((readerText h1.1 (by omega) (by omega)).mono fun x3 h3 => ?_)
  refine Tot.bind ((readerNumber h3.1 (by omega)).mono fun x5 h5 => ?_)
  refine Tot.bind ((readerNumber h5.1 (by omega)).mono fun x7 h7 => ?_)
  refine Tot.cut (fun r => r.2.length ≤ 8) ?_ fun (v11, v12) hv => ?_
  · repeat' first
      | dsimp only
      | refine Tot.gd ?_ (fun _ => ?_)
      | refine Tot.ite (fun _ => ?_) (fun _ => ?_)
      | refine Tot.next ?_ ?_
      | refine Tot.brk ?_
      | refine Tot.ret ?_
      | refine Tot.bind ?_
    all_goals grind [okL, okS, wrap64]
  refine Tot.cut (fun r => r.2.length ≤ 8) (Tot.loop (fun (i, o, l) => 0 ≤ i ∧ i ≤ v12.length ∧ rdOK o ∧ l.length = v12.length) (fun (i, o, l) => (v12.length - i).toNat) ?_ ?_) fun (v33, v34) hw => ?_
  · exact ⟨by omega, by omega, h7.1, rfl⟩
  · rintro ⟨i, o, l⟩ hI
    repeat' first
      | dsimp only
      | refine (readerText (by grind) (by omega) (by omega)).mono (fun _ _ => ?_)
      | refine (readerValue (by grind)).mono (fun _ _ => ?_)
      | refine Tot.gd ?_ (fun _ => ?_)
      | refine Tot.ite (fun _ => ?_) (fun _ => ?_)
      | refine Tot.next ?_ ?_
      | refine Tot.brk ?_
      | refine Tot.ret ?_
      | refine Tot.bind ?_
    all_goals grind [okL, okS, wrap64]
  · repeat' first
      | dsimp only
      | refine (eventMay (by grind)).mono (fun _ _ => ?_)
      | refine Tot.gd ?_ (fun _ => ?_)
      | refine Tot.ite (fun _ => ?_) (fun _ => ?_)
      | refine Tot.next ?_ ?_
      | refine Tot.brk ?_
      | refine Tot.ret ?_
      | refine Tot.bind ?_
theorem topicOf {s t : Str} (h : s.length ≤ 16777216) : Tot (topic_of s t) (fun _ => True) := by
  unfold topic_of
  repeat' first
    | dsimp only
    | refine (eventTake h).mono (fun _ _ => ?_)
    | refine Tot.gd ?_ (fun _ => ?_)
    | refine Tot.ite (fun _ => ?_) (fun _ => ?_)
    | refine Tot.next ?_ ?_
    | refine Tot.brk ?_
    | refine Tot.ret ?_
    | refine Tot.bind ?_
theorem topicMay {N : Nat} {t : api_Topic} (h : ok_Topic N t) (hN : N ≤ 16777216) : Tot (topic_may t) (fun _ => True) := by
  obtain ⟨h1, h2, h3⟩ := h
  unfold topic_may
  repeat' first
    | dsimp only
    | refine (nameTopic _).mono (fun _ _ => ?_)
    | refine Tot.gd ?_ (fun _ => ?_)
    | refine Tot.ite (fun _ => ?_) (fun _ => ?_)
    | refine Tot.next ?_ ?_
    | refine Tot.brk ?_
    | refine Tot.ret ?_
    | refine Tot.bind ?_
  refine Tot.loop (fun i => 0 ≤ i ∧ i ≤ (t.Log.length : Int)) (fun i => (t.Log.length - i).toNat) ⟨by omega, by omega⟩ ?_
  rintro i hI
  repeat' first
    | dsimp only
    | refine (topicOf (Nat.le_trans (h3.nth (by grind) (by grind)) hN)).mono (fun _ _ => ?_)
    | refine Tot.gd ?_ (fun _ => ?_)
    | refine Tot.ite (fun _ => ?_) (fun _ => ?_)
    | refine Tot.next ?_ ?_
    | refine Tot.brk ?_
    | refine Tot.ret ?_
    | refine Tot.bind ?_
  all_goals grind [okL, okS, wrap64]
theorem topicCheck {N : Nat} {l : List api_Topic} (h : okL N (ok_Topic N) l) (hN : N ≤ 16777216) : Tot (topic_Check l) (fun _ => True) := by
  unfold topic_Check
  repeat' first
    | dsimp only
    | refine Tot.gd ?_ (fun _ => ?_)
    | refine Tot.ite (fun _ => ?_) (fun _ => ?_)
    | refine Tot.next ?_ ?_
    | refine Tot.brk ?_
    | refine Tot.ret ?_
    | refine Tot.bind ?_
  refine Tot.loop (fun i => 0 ≤ i ∧ i ≤ (l.length : Int)) (fun i => (l.length - i).toNat) ⟨by omega, by omega⟩ ?_
  rintro i hI
  repeat' first
    | dsimp only
    | refine (topicMay (h.nth (by grind) (by grind)) hN).mono (fun _ _ => ?_)
    | refine Tot.gd ?_ (fun _ => ?_)
    | refine Tot.ite (fun _ => ?_) (fun _ => ?_)
    | refine Tot.next ?_ ?_
    | refine Tot.brk ?_
    | refine Tot.ret ?_
    | refine Tot.bind ?_
  all_goals grind [okL, okS, wrap64]
theorem dedupCheck (l : List api_Last) : Tot (dedup_Check l) (fun _ => True) := by
  unfold dedup_Check
  repeat' first
    | dsimp only
    | refine Tot.gd ?_ (fun _ => ?_)
    | refine Tot.ite (fun _ => ?_) (fun _ => ?_)
    | refine Tot.next ?_ ?_
    | refine Tot.brk ?_
    | refine Tot.ret ?_
    | refine Tot.bind ?_
  refine Tot.loop (fun i => 0 ≤ i ∧ i ≤ (l.length : Int)) (fun i => (l.length - i).toNat) ⟨by omega, by omega⟩ ?_
  rintro i hI
  repeat' first
    | dsimp only
    | refine (eventField).mono (fun _ _ => ?_)
    | refine Tot.gd ?_ (fun _ => ?_)
    | refine Tot.ite (fun _ => ?_) (fun _ => ?_)
    | refine Tot.next ?_ ?_
    | refine Tot.brk ?_
    | refine Tot.ret ?_
    | refine Tot.bind ?_
  all_goals grind [okL, okS, wrap64]
end Go.Proofs
