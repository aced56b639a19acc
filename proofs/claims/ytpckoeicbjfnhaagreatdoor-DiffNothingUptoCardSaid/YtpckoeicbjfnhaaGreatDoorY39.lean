/- Parts of a proof: texts of the author, merged. No condition of their own. -/
import Derived.Test.YtpckoeicbjfnhaaGreatDoorY17
import Derived.Test.YtpckoeicbjfnhaaGreatDoorY30
import Derived.Test.YtpckoeicbjfnhaaGreatDoorY38
namespace Go.Proofs.YtpckoeicbjfnhaaGreatDoor
set_option maxRecDepth 100000
set_option maxHeartbeats 16000000
section
open Go.RowKit
end
section
open Go.RowKit
theorem zhH {α β:Type}{f g:α→List β}{l:List α}(h:∀ x∈l,f x=g x):l.flatMap f=l.flatMap g:=by
 induction l with
 | nil=>rfl
 | cons x r ih=>rw[List.flatMap_cons,List.flatMap_cons,h x (by simp),ih fun y hy=>h y (by simp[hy])]
end
section
open Go.RowKit
theorem zjc {α β:Type}(g:α→β)(l:List α):(l.flatMap fun a=>[g a])=l.map g:=by
 induction l with
 | nil=>rfl
 | cons a r ih=>rw[List.flatMap_cons,ih];rfl
theorem zjd {α β:Type}(g:α→β)(p:β→Bool)(l:List α):(l.map g).filter p=l.flatMap fun x=>[g x].filter p:=by
 induction l with
 | nil=>rfl
 | cons x r ih=>rw[List.map_cons,List.flatMap_cons,←ih,←List.filter_append];rfl
end
end Go.Proofs.YtpckoeicbjfnhaaGreatDoor
