import Derived.Test.YtkbojechhmmkcaaGreatDoorK35
set_option linter.unusedVariables false
set_option linter.unusedSimpArgs false
set_option maxHeartbeats 16000000
set_option maxRecDepth 100000
namespace Edt
theorem Zbeh:(List.range 25).all (fun i=>tOk (i+250))=true:=by decide+kernel
theorem Zbei:(List.range 25).all (fun i=>tOk (i+275))=true:=by decide+kernel
theorem Zbej:(List.range 25).all (fun i=>tOk (i+300))=true:=by decide+kernel
theorem Zbek:(List.range 25).all (fun i=>tOk (i+325))=true:=by decide+kernel
theorem Zbel:(List.range 25).all (fun i=>tOk (i+350))=true:=by decide+kernel
theorem Zbem:(List.range 25).all (fun i=>tOk (i+375))=true:=by decide+kernel
theorem Zben:(List.range 25).all (fun i=>tOk (i+400))=true:=by decide+kernel
theorem Zbeo:(List.range 25).all (fun i=>tOk (i+425))=true:=by decide+kernel
theorem Zbep:(List.range 25).all (fun i=>tOk (i+450))=true:=by decide+kernel
theorem Zbeq:(List.range 25).all (fun i=>tOk (i+475))=true:=by decide+kernel
end Edt
