import Derived.Test.YtkbojechhmmkcaaGreatDoorK36
set_option linter.unusedVariables false
set_option linter.unusedSimpArgs false
set_option maxHeartbeats 16000000
set_option maxRecDepth 100000
namespace Edt
theorem Zaug:(List.range 25).all (fun i=>aOk (i+250))=true:=by decide+kernel
theorem Zauh:(List.range 25).all (fun i=>aOk (i+275))=true:=by decide+kernel
theorem Zaui:(List.range 25).all (fun i=>aOk (i+300))=true:=by decide+kernel
theorem Zauj:(List.range 25).all (fun i=>aOk (i+325))=true:=by decide+kernel
theorem Zauk:(List.range 25).all (fun i=>aOk (i+350))=true:=by decide+kernel
theorem Zaul:(List.range 25).all (fun i=>aOk (i+375))=true:=by decide+kernel
theorem Zaum:(List.range 25).all (fun i=>aOk (i+400))=true:=by decide+kernel
theorem Zaun:(List.range 25).all (fun i=>aOk (i+425))=true:=by decide+kernel
theorem Zauo:(List.range 25).all (fun i=>aOk (i+450))=true:=by decide+kernel
theorem Zaup:(List.range 25).all (fun i=>aOk (i+475))=true:=by decide+kernel
end Edt
