/- A slice of one's own becomes data ahead of a loop. -/
import Derived.Test.YtgehodhbcckcoaaAbsS
namespace Go.Abs
open Go.RowKit
set_option linter.unusedVariables false
theorem Shift.purT {b : St} {t : Nat} {c c' : Cell} {m' : Mem} (ht : tget b.t t = some (.c c)) (hp : pur b.m c = some (c', m')) : Shift ⟨tset b.t t (.c c'), m'⟩ b := fun B act w hR => by
  obtain ⟨⟨g, hs, hI⟩, hd, hz⟩ := hR
  obtain ⟨v, h1, h2⟩ := hs t _ ht
  cases h2 with
  | c h2 =>
    obtain ⟨g', he, hI', hP⟩ := pur_ok hI h2 hp
    refine ⟨⟨g', fun k x hx => ?_, hI'⟩, hd, hz⟩
    simp only [tget_tset] at hx
    split at hx
    · rename_i hk
      simp at hx
      subst hx
      rw [hk]
      exact ⟨v, h1, .c (.pure hP)⟩
    · obtain ⟨u, q1, q2⟩ := hs k x hx
      exact ⟨u, q1, q2.ext he⟩
theorem Shift.purV {b : St} {t : Nat} {i : Id} {e sz n : Nat} {es : List (List Cell)} {f : Bool} (ht : tget b.t t = some (.c (.view i 0 n))) (hm : mget b.m.o i = some (.arr e sz es f)) (hn : n = es.length) :
    Shift ⟨tset b.t t (.c (.lst es)), { b.m with o := mset b.m.o i (.arr e sz es true) }⟩ b := Shift.purT ht (by simp [pur, hm, hn])
end Go.Abs
